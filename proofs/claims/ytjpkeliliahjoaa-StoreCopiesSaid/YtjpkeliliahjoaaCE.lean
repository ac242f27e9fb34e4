/-
  What each function of this seat computes, and that it keeps to it (E).
-/
import Derived.Test.YtjpkeliliahjoaaCD
set_option linter.unusedSimpArgs false
set_option linter.unusedVariables false
namespace Go.Proofs.Ytjpkeliliahjoaa
open Go Go.Eng Go.Proofs


theorem snoc_job (l : List AJob) (x : AJob) : D.list (l.map AJob.enc ++ [x.enc]) = encL AJob.enc (l ++ [x]) := by simp [encL]
theorem snoc_seen (l : List ASeen) (x : ASeen) : D.list (l.map ASeen.enc ++ [x.enc]) = encL ASeen.enc (l ++ [x]) := by simp [encL]
theorem snoc_alc (l : List AAlc) (x : AAlc) : D.list (l.map AAlc.enc ++ [x.enc]) = encL AAlc.enc (l ++ [x]) := by simp [encL]
theorem take_snoc {α : Type} {l : List α} {n : Nat} {x : α} (h : l[n]? = some x) : l.take n ++ [x] = l.take (n + 1) := by rw [List.take_add_one, h]; rfl
def P1 (s : AStore) (xs : List D) : Prop := ∃ n : Nat, xs = [.int .i64 n, .int .i64 s.Index, .int .i64 s.Next, encL AJob.enc (s.Jobs.take n), .list [], .list [], .list [], .list [], .list [], .list []] ∧ n ≤ s.Jobs.length
theorem P1.next {s : AStore} {n : Nat} {x : AJob} {r : List D} (h : s.Jobs[n]? = some x) : P1 s [.int .i64 ((n : Int) + 1), .int .i64 s.Index, .int .i64 s.Next, encL AJob.enc (s.Jobs.take n ++ [x]), .list [], .list [], .list [], .list [], .list [], .list []] ∧
    FM s.Jobs 0 [.int .i64 ((n : Int) + 1), .int .i64 s.Index, .int .i64 s.Next, encL AJob.enc (s.Jobs.take n ++ [x]), .list [], .list [], .list [], .list [], .list [], .list []] < FM s.Jobs 0 (.int .i64 n :: r) := by
  have hlt := lt_some h
  refine ⟨⟨n + 1, by rw [take_snoc h]; rfl, hlt⟩, ?_⟩
  show s.Jobs.length - ((n : Int) + 1).toNat < s.Jobs.length - (n : Int).toNat
  omega
def P2 (s : AStore) (xs : List D) : Prop := ∃ n : Nat, xs = [.int .i64 n, .int .i64 s.Index, .int .i64 s.Next, encL AJob.enc s.Jobs, encL AJob.enc (s.Stable.take n), .list [], .list [], .list [], .list [], .list []] ∧ n ≤ s.Stable.length
theorem P2.next {s : AStore} {n : Nat} {x : AJob} {r : List D} (h : s.Stable[n]? = some x) : P2 s [.int .i64 ((n : Int) + 1), .int .i64 s.Index, .int .i64 s.Next, encL AJob.enc s.Jobs, encL AJob.enc (s.Stable.take n ++ [x]), .list [], .list [], .list [], .list [], .list []] ∧
    FM s.Stable 0 [.int .i64 ((n : Int) + 1), .int .i64 s.Index, .int .i64 s.Next, encL AJob.enc s.Jobs, encL AJob.enc (s.Stable.take n ++ [x]), .list [], .list [], .list [], .list [], .list []] < FM s.Stable 0 (.int .i64 n :: r) := by
  have hlt := lt_some h
  refine ⟨⟨n + 1, by rw [take_snoc h]; rfl, hlt⟩, ?_⟩
  show s.Stable.length - ((n : Int) + 1).toNat < s.Stable.length - (n : Int).toNat
  omega
def P3 (s : AStore) (xs : List D) : Prop := ∃ n : Nat, xs = [.int .i64 n, .int .i64 s.Index, .int .i64 s.Next, encL AJob.enc s.Jobs, encL AJob.enc s.Stable, encL ANode.enc s.Nodes, encL AAlc.enc s.Allocs, encL AEvl.enc s.Evals, encL AEvl.enc s.Deploys, encL ASeen.enc (s.Seen.take n)] ∧ n ≤ s.Seen.length
theorem P3.next {s : AStore} {n : Nat} {x : ASeen} {r : List D} (h : s.Seen[n]? = some x) : P3 s [.int .i64 ((n : Int) + 1), .int .i64 s.Index, .int .i64 s.Next, encL AJob.enc s.Jobs, encL AJob.enc s.Stable, encL ANode.enc s.Nodes, encL AAlc.enc s.Allocs, encL AEvl.enc s.Evals, encL AEvl.enc s.Deploys, encL ASeen.enc (s.Seen.take n ++ [x])] ∧
    FM s.Seen 0 [.int .i64 ((n : Int) + 1), .int .i64 s.Index, .int .i64 s.Next, encL AJob.enc s.Jobs, encL AJob.enc s.Stable, encL ANode.enc s.Nodes, encL AAlc.enc s.Allocs, encL AEvl.enc s.Evals, encL AEvl.enc s.Deploys, encL ASeen.enc (s.Seen.take n ++ [x])] < FM s.Seen 0 (.int .i64 n :: r) := by
  have hlt := lt_some h
  refine ⟨⟨n + 1, by rw [take_snoc h]; rfl, hlt⟩, ?_⟩
  show s.Seen.length - ((n : Int) + 1).toNat < s.Seen.length - (n : Int).toNat
  omega
theorem useF_append (node : Int) (a : AAlc) : ∀ (l : List AAlc) (x : ARes), (useF node l x = ⟨M, M⟩ ∧ useF node (l ++ [a]) x = ⟨M, M⟩) ∨ useF node (l ++ [a]) x = useF node [a] (useF node l x)
  | [], x => .inr rfl
  | b :: l, x => by
    simp only [List.cons_append, useF]
    split
    · exact useF_append node a l x
    · split
      · exact useF_append node a l _
      · exact .inl ⟨rfl, rfl⟩
theorem useF_more {node : Int} {a : AAlc} {l : List AAlc} : (over a = true ∨ a.Node ≠ node → useF node (l ++ [a]) ⟨0, 0⟩ = useF node l ⟨0, 0⟩) ∧
    (over a = false → a.Node = node → useF node (l ++ [a]) ⟨0, 0⟩ = ⟨M, M⟩ ∨ ((useF node (l ++ [a]) ⟨0, 0⟩).CPU = (useF node l ⟨0, 0⟩).CPU + a.CPU ∧ (useF node (l ++ [a]) ⟨0, 0⟩).Mem = (useF node l ⟨0, 0⟩).Mem + a.Mem ∧
      0 ≤ (useF node l ⟨0, 0⟩).CPU ∧ 0 ≤ (useF node l ⟨0, 0⟩).Mem ∧ 0 ≤ a.CPU ∧ 0 ≤ a.Mem ∧ (useF node l ⟨0, 0⟩).CPU + a.CPU ≤ M ∧ (useF node l ⟨0, 0⟩).Mem + a.Mem ≤ M)) := by
  constructor
  · intro h
    rcases useF_append node a l ⟨0, 0⟩ with ⟨h1, h2⟩ | h1
    · rw [h1, h2]
    · rw [h1, useF, if_pos (by rcases h with h | h <;> simp [h])]; rfl
  · intro h h'
    rcases useF_append node a l ⟨0, 0⟩ with ⟨h1, h2⟩ | h1
    · exact .inl h2
    · rw [h1, useF, if_neg (by simp [h, h'])]
      by_cases hs : sumOk (useF node l ⟨0, 0⟩) ⟨a.CPU, a.Mem⟩ = true
      · have hadd : addR (useF node l ⟨0, 0⟩) ⟨a.CPU, a.Mem⟩ = (⟨(useF node l ⟨0, 0⟩).CPU + a.CPU, (useF node l ⟨0, 0⟩).Mem + a.Mem⟩, true) := by unfold addR; rw [if_pos hs]
        rw [hadd]
        have := sumOk_iff.1 hs
        exact .inr ⟨rfl, rfl, this⟩
      · have hadd : addR (useF node l ⟨0, 0⟩) ⟨a.CPU, a.Mem⟩ = (⟨0, 0⟩, false) := by unfold addR; rw [if_neg hs]
        rw [hadd]
        exact .inl rfl
theorem hUsedW (s : AStore) (l : List AAlc) (node : Int) : phi 10 [.agg [.int .i64 s.Index, .int .i64 s.Next, encL AJob.enc s.Jobs, encL AJob.enc s.Stable, encL ANode.enc s.Nodes, encL AAlc.enc l, encL AEvl.enc s.Evals, encL AEvl.enc s.Deploys, encL ASeen.enc s.Seen], .int .i64 node] = (useF node l ⟨0, 0⟩).enc :=
  hUsed { s with Allocs := l } node
theorem c39 : PureFn Try.prog 39 s39 (pre 39) (phi 39) := by
  refine pureFn_auto (given := []) mix con5 Try.func39 (by kernel_rfl) (v := vc39) (by kernel_rfl) ?_
  intro ds h hp
  obtain ⟨_, _, rfl, gj, rfl⟩ := h
  obtain ⟨j, rfl, hj⟩ := AJob.cases gj
  have hR : phi 39 [j.enc] = j.enc := rfl
  simp [vc39, vh_obl, vh_call, vh_room, vh_branch, vh_loop, vh_again, vh_ret, vh_any, vh_hav, pre, updV, den, U.den, B.den, upd, condB, toL_list, toL_agg, toL_tup, toL_ptr, toL_fn, toI_int, toB_bool, AJob.toL, encL_toL, hR]
  refine ⟨hj.Groups.1, ?_⟩
  rw [list_map_encL]; rfl
theorem con39 : Con Try.prog pre phi tb39 := con_cons c39 con5

theorem c15 : PureFn Try.prog 15 s15 (pre 15) (phi 15) := by
  refine pureFn_auto (given := []) mix con39 Try.func15 (by kernel_rfl) (v := vc15) (by kernel_rfl) ?_
  intro ds h hp
  obtain ⟨_, _, rfl, gs, rfl⟩ := h
  obtain ⟨s, rfl, hs⟩ := AStore.cases gs
  have hR : phi 15 [s.enc] = s.enc := rfl
  have hJ : ∀ j : AJob, phi 39 [j.enc] = j.enc := fun _ => rfl
  simp only [vc15, vh_obl, vh_call, vh_room, vh_branch, vh_loop, vh_again, vh_ret, vh_any, vh_hav, pre, implies_true, true_and]
  refine LoopOk.intro (P1 s) (FM s.Jobs 0) ⟨0, by simp [updV, den, U.den, B.den, upd, condB, toL_list, toL_agg, toL_tup, toL_ptr, toL_fn, toI_int, toB_bool, AStore.toL, encL], Nat.zero_le _⟩ ?_
  rintro xs hxs ⟨n, rfl, hle⟩
  rcases hx : s.Jobs[n]? with _ | x
  · have hge := ge_none hx
    simp [updV, den, U.den, B.den, upd, condB, toL_list, toL_agg, toL_tup, toL_ptr, toL_fn, toI_int, toB_bool, AStore.toL, encL_toL, hge, Nat.not_lt.2 hge, List.take_of_length_le hge]
    refine LoopOk.intro (P2 s) (FM s.Stable 0) ⟨0, by simp [encL], Nat.zero_le _⟩ ?_
    rintro xs hxs ⟨m, rfl, hle'⟩
    rcases hy : s.Stable[m]? with _ | y
    · have hge' := ge_none hy
      simp [updV, den, U.den, B.den, upd, condB, toL_list, toL_agg, toL_tup, toL_ptr, toL_fn, toI_int, toB_bool, AStore.toL, encL_toL, hge', Nat.not_lt.2 hge', List.take_of_length_le hge']
      refine ⟨hs.Nodes.1, hs.Allocs.1, hs.Evals.1, hs.Deploys.1, ?_⟩
      refine LoopOk.intro (P3 s) (FM s.Seen 0) ⟨0, by simp [encL], Nat.zero_le _⟩ ?_
      rintro xs hxs ⟨k, rfl, hle''⟩
      rcases hz : s.Seen[k]? with _ | z
      · have hge'' := ge_none hz
        simp [updV, den, U.den, B.den, upd, condB, toL_list, toL_agg, toL_tup, toL_ptr, toL_fn, toI_int, toB_bool, AStore.toL, encL_toL, hge'', Nat.not_lt.2 hge'', List.take_of_length_le hge'', hR]
        rfl
      · obtain ⟨hlt, hge2⟩ := List.getElem?_eq_some_iff.1 hz
        have hw := next64 hs.Seen.1.1 hlt
        have hb := lenOk.mono hs.Seen.1 hlt
        have ha := (hs.Seen.2 z (mem_some hz)).Allocs.1
        have hf : D.agg [.int .i64 z.Client, .int .i64 z.Req, .int .i64 z.Code, .int .i64 z.Value, .list (z.Allocs.map AAlc.enc)] = z.enc := rfl
        simp [updV, den, U.den, B.den, upd, condB, toL_list, toL_agg, toL_tup, toL_ptr, toL_fn, toI_int, toB_bool, AStore.toL, encL_toL, ASeen.toL, hge2, hlt, Nat.not_le.2 hlt, hw, hf, snoc_seen, -List.map_take]
        first | (refine ⟨ha, ⟨by have := hb.1; omega, by have : (k + 1) * 56 ≤ 140737488355328 := hb.2; omega⟩, P3.next hz⟩) | trace_state
    · obtain ⟨hlt, hge2⟩ := List.getElem?_eq_some_iff.1 hy
      have hw := next64 hs.Stable.1.1 hlt
      have hb := lenOk.mono hs.Stable.1 hlt
      simp [updV, den, U.den, B.den, upd, condB, toL_list, toL_agg, toL_tup, toL_ptr, toL_fn, toI_int, toB_bool, AStore.toL, encL_toL, hJ, AJob.toL, AJob.fold, hge2, hlt, Nat.not_le.2 hlt, hw, snoc_job, -List.map_take]
      first | (refine ⟨⟨by have := hb.1; omega, by have : (m + 1) * 72 ≤ 140737488355328 := hb.2; omega⟩, P2.next hy⟩) | trace_state
  · obtain ⟨hlt, hge2⟩ := List.getElem?_eq_some_iff.1 hx
    have hw := next64 hs.Jobs.1.1 hlt
    have hb := lenOk.mono hs.Jobs.1 hlt
    simp [updV, den, U.den, B.den, upd, condB, toL_list, toL_agg, toL_tup, toL_ptr, toL_fn, toI_int, toB_bool, AStore.toL, encL_toL, hJ, AJob.toL, AJob.fold, hge2, hlt, Nat.not_le.2 hlt, hw, snoc_job, -List.map_take]
    first | (refine ⟨⟨by have := hb.1; omega, by have : (n + 1) * 72 ≤ 140737488355328 := hb.2; omega⟩, P1.next hx⟩) | trace_state
theorem con15 : Con Try.prog pre phi tb15 := con_cons c15 con39

theorem c4 : PureFn Try.prog 4 s4 (pre 4) (phi 4) := by
  refine pureFn_auto (given := []) mix con15 Try.func4 (by kernel_rfl) (v := vc4) (by kernel_rfl) ?_
  intro ds h hp
  obtain ⟨_, _, rfl, gs, _, _, rfl, ga, _, _, rfl, ⟨node, rfl, _⟩, rfl⟩ := h
  obtain ⟨s, rfl, hs⟩ := AStore.cases gs
  obtain ⟨a, rfl, ha⟩ := AAlc.cases ga
  have hp' : s.Allocs.length * 88 ≤ 140737488355328 - 4096 := by simpa [pre, AStore.toL, encL_toL] using hp
  have hC : phi 15 [s.enc] = s.enc := rfl
  have hR : ∀ l, phi 4 l = .bool true := fun _ => rfl
  simp only [vc4, vh_obl, vh_call, vh_room, vh_branch, vh_loop, vh_again, vh_ret, vh_any, vh_hav]
  simp [updV, den, U.den, B.den, upd, condB, toL_list, toL_agg, toL_tup, toL_ptr, toL_fn, toI_int, toB_bool, AStore.toL, AStore.fold, encL_toL, AAlc.toL, AAlc.fold, hC, hR, hLives, snoc_alc, hUsedW, hUsed, ARes.toL]
  have hM : M = 1152921504606846976 := rfl
  obtain ⟨m1, m2⟩ := useF_more (node := node) (a := a) (l := s.Allocs)
  refine ⟨trivial, trivial, ⟨by simp only [maxLen]; omega, by omega⟩, trivial, fun hc => ?_, fun h1 h2 => ?_⟩
  · have e := m1 (hc.imp (fun hc => by simp [over, hc]) (fun hc => hc))
    rw [e]
    exact ⟨fun _ _ => trivial, rfl, rfl⟩
  · have e := m2 (by simp [over]; omega) h2
    rw [show used s node = useF node s.Allocs ⟨0, 0⟩ from rfl]
    generalize useF node (s.Allocs ++ [a]) ⟨0, 0⟩ = q at e
    generalize useF node s.Allocs ⟨0, 0⟩ = u at e
    rcases e with rfl | ⟨e1, e2, e3⟩
    · exact ⟨fun _ => ⟨fun _ => trivial, .inr ⟨rfl, rfl⟩⟩, fun _ h4 => absurd rfl (h4 rfl)⟩
    · have w1 : IntKind.i64.wrap (u.CPU + a.CPU) = u.CPU + a.CPU := wrap64 (by omega) (by omega)
      have w2 : IntKind.i64.wrap (u.Mem + a.Mem) = u.Mem + a.Mem := wrap64 (by omega) (by omega)
      rw [w1, w2]
      refine ⟨fun h4 => ⟨fun _ => trivial, ?_⟩, fun _ _ => ⟨fun _ _ => trivial, e1, e2⟩⟩
      by_cases hq : q.CPU = 1152921504606846976 ∧ q.Mem = 1152921504606846976
      · exact .inr hq
      · by_cases hu : u.CPU = 1152921504606846976
        · exact .inl (.inr (by omega))
        · exact .inl (.inl hu)
theorem con4 : Con Try.prog pre phi tb4 := con_cons c4 con15

end Go.Proofs.Ytjpkeliliahjoaa
