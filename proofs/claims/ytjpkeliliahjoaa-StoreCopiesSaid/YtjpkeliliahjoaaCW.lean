/-
  What each function of this seat computes, and that it keeps to it (W).
-/
import Derived.Test.YtjpkeliliahjoaaCU
set_option linter.unusedSimpArgs false
set_option linter.unusedVariables false
namespace Go.Proofs.Ytjpkeliliahjoaa
open Go Go.Eng Go.Proofs

theorem ccopyF : FreshFn Try.prog 15 scopyF.params storeT (fun _ => True) (phi 15) := by
  refine freshFn_auto (given := []) (sig := scopyF) mix con31 Try.func15 (by kernel_rfl) rfl rfl (v := vccopyF) (by kernel_rfl) ?_
  intro ds h hp
  obtain ⟨_, _, rfl, gs, rfl⟩ := h
  obtain ⟨s, rfl, hs⟩ := AStore.cases gs
  have hR : phi 15 [s.enc] = s.enc := rfl
  have hJ : ∀ j : AJob, phi 39 [j.enc] = j.enc := fun _ => rfl
  simp only [vccopyF, vh_obl, vh_call, vh_room, vh_branch, vh_loop, vh_again, vh_ret, vh_any, vh_hav, pre, implies_true, true_and]
  refine LoopOk.intro (P1 s) (FM s.Jobs 0) ⟨0, by simp [updV, den, U.den, B.den, upd, condB, toL_list, toL_agg, toL_tup, toL_ptr, toL_fn, toI_int, toB_bool, AStore.toL, encL], Nat.zero_le _⟩ ?_
  rintro xs hxs ⟨n, rfl, hle⟩
  rcases hx : s.Jobs[n]? with _ | x
  · have hge := ge_none hx
    simp [updV, den, U.den, B.den, upd, condB, toL_list, toL_agg, toL_tup, toL_ptr, toL_fn, toI_int, toB_bool, AStore.toL, encL_toL, hge, Nat.not_lt.2 hge, List.take_of_length_le hge]
    refine LoopOk.intro (P2 s) (FM s.Stable 0) ⟨0, by simp [encL], Nat.zero_le _⟩ ?_
    rintro xs hxs ⟨m, rfl, hle'⟩
    rcases hy : s.Stable[m]? with _ | y
    · have hge' := ge_none hy
      simp [updV, den, U.den, B.den, upd, condB, toL_list, toL_agg, toL_tup, toL_ptr, toL_fn, toI_int, toB_bool, AStore.toL, encL_toL, hge', Nat.not_lt.2 hge', List.take_of_length_le hge']
      refine ⟨hs.Nodes.1, hs.Allocs.1, hs.Evals.1, hs.Deploys.1, ?_⟩
      refine LoopOk.intro (P3 s) (FM s.Seen 0) ⟨0, by simp [encL], Nat.zero_le _⟩ ?_
      rintro xs hxs ⟨k, rfl, hle''⟩
      rcases hz : s.Seen[k]? with _ | z
      · have hge'' := ge_none hz
        simp [updV, den, U.den, B.den, upd, condB, toL_list, toL_agg, toL_tup, toL_ptr, toL_fn, toI_int, toB_bool, AStore.toL, encL_toL, hge'', Nat.not_lt.2 hge'', List.take_of_length_le hge'', hR]
        rfl
      · obtain ⟨hlt, hge2⟩ := List.getElem?_eq_some_iff.1 hz
        have hw := next64 hs.Seen.1.1 hlt
        have hb := lenOk.mono hs.Seen.1 hlt
        have ha := (hs.Seen.2 z (mem_some hz)).Allocs.1
        have hf : D.agg [.int .i64 z.Client, .int .i64 z.Req, .int .i64 z.Code, .int .i64 z.Value, .list (z.Allocs.map AAlc.enc)] = z.enc := rfl
        simp [updV, den, U.den, B.den, upd, condB, toL_list, toL_agg, toL_tup, toL_ptr, toL_fn, toI_int, toB_bool, AStore.toL, encL_toL, ASeen.toL, hge2, hlt, Nat.not_le.2 hlt, hw, hf, snoc_seen, -List.map_take]
        first | (refine ⟨ha, ⟨by have := hb.1; omega, by have : (k + 1) * 56 ≤ 140737488355328 := hb.2; omega⟩, P3.next hz⟩) | trace_state
    · obtain ⟨hlt, hge2⟩ := List.getElem?_eq_some_iff.1 hy
      have hw := next64 hs.Stable.1.1 hlt
      have hb := lenOk.mono hs.Stable.1 hlt
      simp [updV, den, U.den, B.den, upd, condB, toL_list, toL_agg, toL_tup, toL_ptr, toL_fn, toI_int, toB_bool, AStore.toL, encL_toL, hJ, AJob.toL, AJob.fold, hge2, hlt, Nat.not_le.2 hlt, hw, snoc_job, -List.map_take]
      first | (refine ⟨⟨by have := hb.1; omega, by have : (m + 1) * 72 ≤ 140737488355328 := hb.2; omega⟩, P2.next hy⟩) | trace_state
  · obtain ⟨hlt, hge2⟩ := List.getElem?_eq_some_iff.1 hx
    have hw := next64 hs.Jobs.1.1 hlt
    have hb := lenOk.mono hs.Jobs.1 hlt
    simp [updV, den, U.den, B.den, upd, condB, toL_list, toL_agg, toL_tup, toL_ptr, toL_fn, toI_int, toB_bool, AStore.toL, encL_toL, hJ, AJob.toL, AJob.fold, hge2, hlt, Nat.not_le.2 hlt, hw, snoc_job, -List.map_take]
    first | (refine ⟨⟨by have := hb.1; omega, by have : (n + 1) * 72 ≤ 140737488355328 := hb.2; omega⟩, P1.next hx⟩) | trace_state
theorem cchangedW : WildFn Try.prog 32 schangedW.params storeT := by
  refine wildFn_auto (sig := schangedW) mix Try.func32 (by kernel_rfl) rfl rfl (v := vcchangedW) (by kernel_rfl) ?_
  intro ds h
  obtain ⟨_, _, rfl, ga, _, _, rfl, ⟨x, rfl, hx⟩, rfl⟩ := h
  obtain ⟨s, rfl, hs⟩ := AStore.cases ga
  simp [vcchangedW, vh_obl, vh_call, vh_room, vh_branch, vh_loop, vh_again, vh_ret, vh_any, vh_hav, updV, den, U.den, B.den, upd, condB, toL_list, toL_agg, toL_tup, toL_ptr, toL_fn, toI_int, toB_bool, AStore.toL, encL_toL]

theorem hFw : ∀ k y, lk ([(15, ([storeT], storeT))] : FTbl) k = some y → FreshFn Try.prog k y.1 y.2 (fun _ => True) (phi k) := by
  intro k y h
  simp only [lk] at h
  split at h
  · rename_i e
    subst e
    injection h with h
    subst h
    exact ccopyF
  · cases h
theorem hWl : ∀ k y, lk ([(32, ([storeT, .int .i64], storeT))] : FTbl) k = some y → WildFn Try.prog k y.1 y.2 := by
  intro k y h
  simp only [lk] at h
  split at h
  · rename_i e
    subst e
    injection h with h
    subst h
    exact cchangedW
  · cases h
theorem c7 : PureFn Try.prog 7 s7 (pre 7) (phi 7) := by
  refine pureFn_autoC (given := []) (fw := [(15, ([storeT], storeT))]) (wl := [(32, ([storeT, .int .i64], storeT))]) mix con31 hFw hWl Try.func7 (by kernel_rfl) (v := vc7) (by kernel_rfl) ?_
  intro ds h hp
  obtain ⟨_, _, rfl, ga, _, _, rfl, gb, _, _, rfl, ⟨which, rfl, _⟩, rfl⟩ := h
  obtain ⟨s, rfl, hs⟩ := AStore.cases ga
  obtain ⟨t, rfl, ht⟩ := AStore.cases gb
  have hR : ∀ l, phi 7 l = .bool true := fun _ => rfl
  have hC : phi 15 [s.enc] = s.enc := rfl
  have hS : ∀ x y : AStore, phi 33 [x.enc, y.enc] = .bool (decide (x = y)) := fun x y => by simp [phi, AStore.dec_enc]
  have hT : ∀ x y : AStore, phi 31 [x.enc, y.enc] = .bool (decide (x = y)) := fun x y => by simp [phi, AStore.dec_enc]
  simp only [vc7, vh_obl, vh_call, vh_room, vh_branch, vh_loop, vh_again, vh_ret, vh_any, vh_hav]
  simp [updV, den, U.den, B.den, upd, condB, toL_list, toL_agg, toL_tup, toL_ptr, toL_fn, toI_int, toB_bool, pre, AStore.toL, AStore.fold, hC, hR, hS, hT, hLives]
  intro d hd
  obtain ⟨c, rfl, hc⟩ := AStore.cases hd
  simp [AStore.toL, AStore.fold, hS, hT, hLives]
theorem con7 : Con Try.prog pre phi tb7 := con_cons c7 con31

end Go.Proofs.Ytjpkeliliahjoaa
