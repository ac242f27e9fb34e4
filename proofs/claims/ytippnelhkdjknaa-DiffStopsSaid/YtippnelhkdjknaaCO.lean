/-
  What each function of this seat computes, and that it keeps to it (O).
-/
import Derived.Test.YtippnelhkdjknaaCN
set_option linter.unusedSimpArgs false
set_option linter.unusedVariables false
namespace Go.Proofs.Ytippnelhkdjknaa
open Go Go.Eng Go.Proofs

theorem ccopyX : PureFn Try.prog 16 scopyX (pre 16) (phi 16) := by
  refine pureFn_auto (given := [(1000000, {drop := [30, 48, 54, 60, 66, 72, 98]}), (3, {drop := [1000002]}), (7, {drop := [1000002]}), (15, {drop := [1000002]})]) mix con5 Try.func16 (by kernel_rfl) (v := vccopyX) (by kernel_rfl) ?_
  intro ds h hp
  obtain ⟨_, _, rfl, gs, rfl⟩ := h
  obtain ⟨s, rfl, hs⟩ := AStore.cases gs
  have hR : phi 16 [s.enc] = s.enc := rfl
  have hJ : ∀ j : AJob, phi 26 [j.enc] = j.enc := fun _ => rfl
  simp only [vccopyX, vh_obl, vh_call, vh_room, vh_branch, vh_loop, vh_again, vh_ret, vh_any, vh_hav, vh_range, pre, implies_true, true_and]
  refine LoopOk.intro (P1 s) (FM s.Jobs 0) ⟨0, by simp [updV, den, U.den, B.den, upd, condB, toL_list, toL_agg, toL_tup, toL_ptr, toL_fn, toI_int, toB_bool, AStore.toL, encL], Nat.zero_le _⟩ ?_
  rintro xs hxs ⟨n, rfl, hle⟩
  rcases hx : s.Jobs[n]? with _ | x
  · have hge := ge_none hx
    simp [updV, den, U.den, B.den, upd, condB, toL_list, toL_agg, toL_tup, toL_ptr, toL_fn, toI_int, toB_bool, AStore.toL, encL_toL, hge, Nat.not_lt.2 hge, List.take_of_length_le hge]
    refine LoopOk.intro (P2 s) (FM s.Stable 0) ⟨0, by simp [encL], Nat.zero_le _⟩ ?_
    rintro xs hxs ⟨m, rfl, hle'⟩
    rcases hy : s.Stable[m]? with _ | y
    · have hge' := ge_none hy
      simp [updV, den, U.den, B.den, upd, condB, toL_list, toL_agg, toL_tup, toL_ptr, toL_fn, toI_int, toB_bool, AStore.toL, encL_toL, hge', Nat.not_lt.2 hge', List.take_of_length_le hge']
      refine ⟨hs.Nodes.1, hs.Allocs.1, hs.Evals.1, hs.Deploys.1, ?_⟩
      refine LoopOk.intro (P3 s) (FM s.Seen 0) ⟨0, by simp [encL], Nat.zero_le _⟩ ?_
      rintro xs hxs ⟨k, rfl, hle''⟩
      rcases hz : s.Seen[k]? with _ | z
      · have hge'' := ge_none hz
        simp [updV, den, U.den, B.den, upd, condB, toL_list, toL_agg, toL_tup, toL_ptr, toL_fn, toI_int, toB_bool, AStore.toL, encL_toL, hge'', Nat.not_lt.2 hge'', List.take_of_length_le hge'', hR]
        rfl
      · obtain ⟨hlt, hge2⟩ := List.getElem?_eq_some_iff.1 hz
        have hw := next64 hs.Seen.1.1 hlt
        have hb := lenOk.mono hs.Seen.1 hlt
        have ha := (hs.Seen.2 z (mem_some hz)).Allocs.1
        have hf : D.agg [.int .i64 z.Client, .int .i64 z.Req, .int .i64 z.Code, .int .i64 z.Value, .list (z.Allocs.map AAlc.enc)] = z.enc := rfl
        simp [updV, den, U.den, B.den, upd, condB, toL_list, toL_agg, toL_tup, toL_ptr, toL_fn, toI_int, toB_bool, AStore.toL, encL_toL, ASeen.toL, hge2, hlt, Nat.not_le.2 hlt, hw, hf, snoc_seen, -List.map_take]
        first | (refine ⟨ha, ⟨by have := hb.1; omega, by have : (k + 1) * 56 ≤ 140737488355328 := hb.2; omega⟩, P3.next hz⟩) | trace_state
    · obtain ⟨hlt, hge2⟩ := List.getElem?_eq_some_iff.1 hy
      have hw := next64 hs.Stable.1.1 hlt
      have hb := lenOk.mono hs.Stable.1 hlt
      simp [updV, den, U.den, B.den, upd, condB, toL_list, toL_agg, toL_tup, toL_ptr, toL_fn, toI_int, toB_bool, AStore.toL, encL_toL, hJ, AJob.toL, AJob.fold, hge2, hlt, Nat.not_le.2 hlt, hw, snoc_job, -List.map_take]
      first | (refine ⟨⟨by have := hb.1; omega, by have : (m + 1) * 72 ≤ 140737488355328 := hb.2; omega⟩, P2.next hy⟩) | trace_state
  · obtain ⟨hlt, hge2⟩ := List.getElem?_eq_some_iff.1 hx
    have hw := next64 hs.Jobs.1.1 hlt
    have hb := lenOk.mono hs.Jobs.1 hlt
    simp [updV, den, U.den, B.den, upd, condB, toL_list, toL_agg, toL_tup, toL_ptr, toL_fn, toI_int, toB_bool, AStore.toL, encL_toL, hJ, AJob.toL, AJob.fold, hge2, hlt, Nat.not_le.2 hlt, hw, snoc_job, -List.map_take]
    first | (refine ⟨⟨by have := hb.1; omega, by have : (n + 1) * 72 ≤ 140737488355328 := hb.2; omega⟩, P1.next hx⟩) | trace_state
theorem concopyX : Con Try.prog pre phi tbcopyX := con_cons ccopyX con5


theorem moves1_mv (s : AStore) (j : AJob) (p : Int × Int) : moves1 s j p = mv1 s j [] p := by
  unfold moves1 mv1 atI slI
  rcases find0 (isSlot j.ID p.1 p.2) s.Allocs with ⟨h1, h2⟩ | ⟨n, x, h1, h2, h3⟩
  · have h1' : slotI s j.ID p.1 p.2 = -1 := h1
    simp [h2, h1']
  · have h1' : slotI s j.ID p.1 p.2 = n := h1
    have hn : ¬ ((n : Int) < 0) := by omega
    simp [h3, h1', h2, hn]
theorem c15 : PureFn Try.prog 15 s15 (pre 15) (phi 15) := by
  refine pureFn_auto (given := []) mix concopyX Try.func15 (by kernel_rfl) (v := vc15) (by kernel_rfl) ?_
  intro ds h hp
  obtain ⟨_, _, rfl, gs, _, _, rfl, gj, rfl⟩ := h
  obtain ⟨s, rfl, hs⟩ := AStore.cases gs
  obtain ⟨j, rfl, hj⟩ := AJob.cases gj
  have hrm : room13 s j := by
    have h : room13 (AStore.dec s.enc) (AJob.dec j.enc) := hp
    rwa [AStore.dec_enc, AJob.dec_enc] at h
  have hR : phi 15 [s.enc, j.enc] = .int .i64 (movingN s j) := by
    show D.int .i64 (movingN (AStore.dec s.enc) (AJob.dec j.enc)) = _
    rw [AStore.dec_enc, AJob.dec_enc]
  have hlen : (slotsL s j).length * 16 ≤ 140737488355328 := hrm
  simp only [vc15, vh_obl, vh_call, vh_room, vh_branch, vh_loop, vh_again, vh_ret, vh_any, vh_hav, vh_range, implies_true, true_and]
  rw [hR]
  simp [-List.any_eq_true, -List.any_eq_false, updV, den, U.den, B.den, upd, condB, toL_list, toL_agg, toL_tup, toL_ptr, toL_fn, toI_int, toB_bool, AStore.toL, AStore.fold, ANode.toL, AAlc.toL, AJob.toL, AGrp.toL, AEvl.toL, ARes.toL, ARes.eta, encL_toL, AJob.fold, hSlots12, hSlotsPre, hrm]
  unfold movingN
  generalize hL : slotsL s j = L at hlen
  refine LoopOk.intro (fun xs => ∃ n : Nat, xs = [.int .i64 ((L.take n).countP (moves1 s j) : Int), .int .i64 n] ∧ n ≤ L.length) (FM L 1) ⟨0, by simp, Nat.zero_le _⟩ ?_
  rintro xs hxs ⟨n, rfl, hle⟩
  rcases hx : L[n]? with _ | p
  · have hge := ge_none hx
    have hn3 : ¬ ((n : Int) < L.length) := by omega
    rw [List.take_of_length_le hge]
    simp [-List.any_eq_true, -List.any_eq_false, updV, den, U.den, B.den, upd, condB, toL_list, toL_agg, toL_tup, toL_ptr, toL_fn, toI_int, toB_bool, AStore.toL, AStore.fold, ANode.toL, AAlc.toL, AJob.toL, AGrp.toL, AEvl.toL, ARes.toL, ARes.eta, encL_toL, hn3, hge]
  · obtain ⟨hlt, hge⟩ := List.getElem?_eq_some_iff.1 hx
    have hw : IntKind.i64.wrap ((n : Int) + 1) = (n : Int) + 1 := wrap64 (by omega) (by omega)
    have hcl : (L.take n).countP (moves1 s j) ≤ L.length := countP_take_le
    have hcw : IntKind.i64.wrap (((L.take n).countP (moves1 s j) : Int) + 1) = ((L.take n).countP (moves1 s j) : Int) + 1 := wrap64 (by omega) (by omega)
    have hct := countP_take (f := moves1 s j) hx
    have hmv := moves1_mv s j p
    have hm : L.length - (((n + 1 : Nat) : Int)).toNat < L.length - ((n : Nat) : Int).toNat := by omega
    rcases slI_at s j p with hq | ⟨m, a, h1, h2, h3, h4⟩
    · simp [-List.any_eq_true, -List.any_eq_false, updV, den, U.den, B.den, upd, condB, toL_list, toL_agg, toL_tup, toL_ptr, toL_fn, toI_int, toB_bool, AStore.toL, AStore.fold, ANode.toL, AAlc.toL, AJob.toL, AGrp.toL, AEvl.toL, ARes.toL, ARes.eta, encL_toL, AJob.toL, slotE_toL, hlt, hge, Nat.not_le.2 hlt, hw, hcw, hSlotR, slI_fold, hPre2, hq]
      have hmt : moves1 s j p = true := by rw [hmv]; simp [mv1, hq]
      rw [if_pos hmt] at hct
      exact ⟨⟨n + 1, ⟨by rw [hct]; simp, by simp⟩, hlt⟩, hm⟩
    · obtain ⟨hltm, hgem⟩ := List.getElem?_eq_some_iff.1 h2
      simp [-List.any_eq_true, -List.any_eq_false, updV, den, U.den, B.den, upd, condB, toL_list, toL_agg, toL_tup, toL_ptr, toL_fn, toI_int, toB_bool, AStore.toL, AStore.fold, ANode.toL, AAlc.toL, AJob.toL, AGrp.toL, AEvl.toL, ARes.toL, ARes.eta, encL_toL, AJob.toL, AAlc.toL, slotE_toL, hlt, hge, Nat.not_le.2 hlt, hw, hcw, hSlotR, slI_fold, hPre2, h1, hltm, hgem]
      have hn : ¬ ((m : Int) < 0) := by omega
      rw [h1] at h4
      refine ⟨fun hc => ?_, fun g1 g2 => ?_⟩
      · have hmt : moves1 s j p = true := by
          rw [hmv]; simp [mv1, h1, h4]
          exact hc.elim (fun h => .inl h) .inr
        rw [if_pos hmt] at hct
        exact ⟨⟨n + 1, ⟨by rw [hct]; simp, by simp⟩, hlt⟩, hm⟩
      · have hmt : moves1 s j p = false := by
          rw [hmv]; simp [mv1, h1, h4, g1, hn]
          exact g2
        rw [hmt] at hct
        simp only [Bool.false_eq_true, if_false, Nat.add_zero] at hct
        exact ⟨⟨n + 1, ⟨by rw [hct], by simp⟩, hlt⟩, hm⟩
theorem con15 : Con Try.prog pre phi tb15 := con_cons c15 concopyX

end Go.Proofs.Ytippnelhkdjknaa
