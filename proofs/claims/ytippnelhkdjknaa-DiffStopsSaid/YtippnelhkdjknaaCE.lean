/-
  What each function of this seat computes, and that it keeps to it (E).
-/
import Derived.Test.YtippnelhkdjknaaCA
set_option linter.unusedSimpArgs false
set_option linter.unusedVariables false
namespace Go.Proofs.Ytippnelhkdjknaa
open Go Go.Eng Go.Proofs


theorem snoc_job (l : List AJob) (x : AJob) : D.list (l.map AJob.enc ++ [x.enc]) = encL AJob.enc (l ++ [x]) := by simp [encL]
theorem snoc_seen (l : List ASeen) (x : ASeen) : D.list (l.map ASeen.enc ++ [x.enc]) = encL ASeen.enc (l ++ [x]) := by simp [encL]
theorem snoc_alc (l : List AAlc) (x : AAlc) : D.list (l.map AAlc.enc ++ [x.enc]) = encL AAlc.enc (l ++ [x]) := by simp [encL]
theorem take_snoc {α : Type} {l : List α} {n : Nat} {x : α} (h : l[n]? = some x) : l.take n ++ [x] = l.take (n + 1) := by rw [List.take_add_one, h]; rfl
def P1 (s : AStore) (xs : List D) : Prop := ∃ n : Nat, xs = [.int .i64 n, .int .i64 s.Index, .int .i64 s.Next, encL AJob.enc (s.Jobs.take n), .list [], .list [], .list [], .list [], .list [], .list []] ∧ n ≤ s.Jobs.length
theorem P1.next {s : AStore} {n : Nat} {x : AJob} {r : List D} (h : s.Jobs[n]? = some x) : P1 s [.int .i64 ((n : Int) + 1), .int .i64 s.Index, .int .i64 s.Next, encL AJob.enc (s.Jobs.take n ++ [x]), .list [], .list [], .list [], .list [], .list [], .list []] ∧
    FM s.Jobs 0 [.int .i64 ((n : Int) + 1), .int .i64 s.Index, .int .i64 s.Next, encL AJob.enc (s.Jobs.take n ++ [x]), .list [], .list [], .list [], .list [], .list [], .list []] < FM s.Jobs 0 (.int .i64 n :: r) := by
  have hlt := lt_some h
  refine ⟨⟨n + 1, by rw [take_snoc h]; rfl, hlt⟩, ?_⟩
  show s.Jobs.length - ((n : Int) + 1).toNat < s.Jobs.length - (n : Int).toNat
  omega
def P2 (s : AStore) (xs : List D) : Prop := ∃ n : Nat, xs = [.int .i64 n, .int .i64 s.Index, .int .i64 s.Next, encL AJob.enc s.Jobs, encL AJob.enc (s.Stable.take n), .list [], .list [], .list [], .list [], .list []] ∧ n ≤ s.Stable.length
theorem P2.next {s : AStore} {n : Nat} {x : AJob} {r : List D} (h : s.Stable[n]? = some x) : P2 s [.int .i64 ((n : Int) + 1), .int .i64 s.Index, .int .i64 s.Next, encL AJob.enc s.Jobs, encL AJob.enc (s.Stable.take n ++ [x]), .list [], .list [], .list [], .list [], .list []] ∧
    FM s.Stable 0 [.int .i64 ((n : Int) + 1), .int .i64 s.Index, .int .i64 s.Next, encL AJob.enc s.Jobs, encL AJob.enc (s.Stable.take n ++ [x]), .list [], .list [], .list [], .list [], .list []] < FM s.Stable 0 (.int .i64 n :: r) := by
  have hlt := lt_some h
  refine ⟨⟨n + 1, by rw [take_snoc h]; rfl, hlt⟩, ?_⟩
  show s.Stable.length - ((n : Int) + 1).toNat < s.Stable.length - (n : Int).toNat
  omega
def P3 (s : AStore) (xs : List D) : Prop := ∃ n : Nat, xs = [.int .i64 n, .int .i64 s.Index, .int .i64 s.Next, encL AJob.enc s.Jobs, encL AJob.enc s.Stable, encL ANode.enc s.Nodes, encL AAlc.enc s.Allocs, encL AEvl.enc s.Evals, encL AEvl.enc s.Deploys, encL ASeen.enc (s.Seen.take n)] ∧ n ≤ s.Seen.length
theorem P3.next {s : AStore} {n : Nat} {x : ASeen} {r : List D} (h : s.Seen[n]? = some x) : P3 s [.int .i64 ((n : Int) + 1), .int .i64 s.Index, .int .i64 s.Next, encL AJob.enc s.Jobs, encL AJob.enc s.Stable, encL ANode.enc s.Nodes, encL AAlc.enc s.Allocs, encL AEvl.enc s.Evals, encL AEvl.enc s.Deploys, encL ASeen.enc (s.Seen.take n ++ [x])] ∧
    FM s.Seen 0 [.int .i64 ((n : Int) + 1), .int .i64 s.Index, .int .i64 s.Next, encL AJob.enc s.Jobs, encL AJob.enc s.Stable, encL ANode.enc s.Nodes, encL AAlc.enc s.Allocs, encL AEvl.enc s.Evals, encL AEvl.enc s.Deploys, encL ASeen.enc (s.Seen.take n ++ [x])] < FM s.Seen 0 (.int .i64 n :: r) := by
  have hlt := lt_some h
  refine ⟨⟨n + 1, by rw [take_snoc h]; rfl, hlt⟩, ?_⟩
  show s.Seen.length - ((n : Int) + 1).toNat < s.Seen.length - (n : Int).toNat
  omega
theorem c26 : PureFn Try.prog 26 s26 (pre 26) (phi 26) := by
  refine pureFn_auto (given := []) mix con37 Try.func26 (by kernel_rfl) (v := vc26) (by kernel_rfl) ?_
  intro ds h hp
  obtain ⟨_, _, rfl, gj, rfl⟩ := h
  obtain ⟨j, rfl, hj⟩ := AJob.cases gj
  have hR : phi 26 [j.enc] = j.enc := rfl
  simp [vc26, vh_obl, vh_call, vh_room, vh_branch, vh_loop, vh_again, vh_ret, vh_any, vh_hav, vh_range, pre, updV, den, U.den, B.den, upd, condB, toL_list, toL_agg, toL_tup, toL_ptr, toL_fn, toI_int, toB_bool, AJob.toL, encL_toL, hR]
  refine ⟨hj.Groups.1, ?_⟩
  rw [list_map_encL]; rfl
theorem con26 : Con Try.prog pre phi tb26 := con_cons c26 con37

theorem c16 : PureFn Try.prog 16 s16 (pre 16) (phi 16) := by
  refine pureFn_auto (given := []) mix con26 Try.func16 (by kernel_rfl) (v := vc16) (by kernel_rfl) ?_
  intro ds h hp
  obtain ⟨_, _, rfl, gs, rfl⟩ := h
  obtain ⟨s, rfl, hs⟩ := AStore.cases gs
  have hR : phi 16 [s.enc] = s.enc := rfl
  have hJ : ∀ j : AJob, phi 26 [j.enc] = j.enc := fun _ => rfl
  simp only [vc16, vh_obl, vh_call, vh_room, vh_branch, vh_loop, vh_again, vh_ret, vh_any, vh_hav, vh_range, pre, implies_true, true_and]
  refine LoopOk.intro (P1 s) (FM s.Jobs 0) ⟨0, by simp [updV, den, U.den, B.den, upd, condB, toL_list, toL_agg, toL_tup, toL_ptr, toL_fn, toI_int, toB_bool, AStore.toL, encL], Nat.zero_le _⟩ ?_
  rintro xs hxs ⟨n, rfl, hle⟩
  rcases hx : s.Jobs[n]? with _ | x
  · have hge := ge_none hx
    simp [updV, den, U.den, B.den, upd, condB, toL_list, toL_agg, toL_tup, toL_ptr, toL_fn, toI_int, toB_bool, AStore.toL, encL_toL, hge, Nat.not_lt.2 hge, List.take_of_length_le hge]
    refine LoopOk.intro (P2 s) (FM s.Stable 0) ⟨0, by simp [encL], Nat.zero_le _⟩ ?_
    rintro xs hxs ⟨m, rfl, hle'⟩
    rcases hy : s.Stable[m]? with _ | y
    · have hge' := ge_none hy
      simp [updV, den, U.den, B.den, upd, condB, toL_list, toL_agg, toL_tup, toL_ptr, toL_fn, toI_int, toB_bool, AStore.toL, encL_toL, hge', Nat.not_lt.2 hge', List.take_of_length_le hge']
      refine ⟨hs.Nodes.1, hs.Allocs.1, hs.Evals.1, hs.Deploys.1, ?_⟩
      refine LoopOk.intro (P3 s) (FM s.Seen 0) ⟨0, by simp [encL], Nat.zero_le _⟩ ?_
      rintro xs hxs ⟨k, rfl, hle''⟩
      rcases hz : s.Seen[k]? with _ | z
      · have hge'' := ge_none hz
        simp [updV, den, U.den, B.den, upd, condB, toL_list, toL_agg, toL_tup, toL_ptr, toL_fn, toI_int, toB_bool, AStore.toL, encL_toL, hge'', Nat.not_lt.2 hge'', List.take_of_length_le hge'', hR]
        rfl
      · obtain ⟨hlt, hge2⟩ := List.getElem?_eq_some_iff.1 hz
        have hw := next64 hs.Seen.1.1 hlt
        have hb := lenOk.mono hs.Seen.1 hlt
        have ha := (hs.Seen.2 z (mem_some hz)).Allocs.1
        have hf : D.agg [.int .i64 z.Client, .int .i64 z.Req, .int .i64 z.Code, .int .i64 z.Value, .list (z.Allocs.map AAlc.enc)] = z.enc := rfl
        simp [updV, den, U.den, B.den, upd, condB, toL_list, toL_agg, toL_tup, toL_ptr, toL_fn, toI_int, toB_bool, AStore.toL, encL_toL, ASeen.toL, hge2, hlt, Nat.not_le.2 hlt, hw, hf, snoc_seen, -List.map_take]
        first | (refine ⟨ha, ⟨by have := hb.1; omega, by have : (k + 1) * 56 ≤ 140737488355328 := hb.2; omega⟩, P3.next hz⟩) | trace_state
    · obtain ⟨hlt, hge2⟩ := List.getElem?_eq_some_iff.1 hy
      have hw := next64 hs.Stable.1.1 hlt
      have hb := lenOk.mono hs.Stable.1 hlt
      simp [updV, den, U.den, B.den, upd, condB, toL_list, toL_agg, toL_tup, toL_ptr, toL_fn, toI_int, toB_bool, AStore.toL, encL_toL, hJ, AJob.toL, AJob.fold, hge2, hlt, Nat.not_le.2 hlt, hw, snoc_job, -List.map_take]
      first | (refine ⟨⟨by have := hb.1; omega, by have : (m + 1) * 72 ≤ 140737488355328 := hb.2; omega⟩, P2.next hy⟩) | trace_state
  · obtain ⟨hlt, hge2⟩ := List.getElem?_eq_some_iff.1 hx
    have hw := next64 hs.Jobs.1.1 hlt
    have hb := lenOk.mono hs.Jobs.1 hlt
    simp [updV, den, U.den, B.den, upd, condB, toL_list, toL_agg, toL_tup, toL_ptr, toL_fn, toI_int, toB_bool, AStore.toL, encL_toL, hJ, AJob.toL, AJob.fold, hge2, hlt, Nat.not_le.2 hlt, hw, snoc_job, -List.map_take]
    first | (refine ⟨⟨by have := hb.1; omega, by have : (n + 1) * 72 ≤ 140737488355328 := hb.2; omega⟩, P1.next hx⟩) | trace_state
theorem con16 : Con Try.prog pre phi tb16 := con_cons c16 con26

end Go.Proofs.Ytippnelhkdjknaa
