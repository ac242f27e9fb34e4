/-
  What each function of this seat computes, and that it keeps to it (A).
-/
import Derived.Test.YtjpkeliliahjoaaF
set_option linter.unusedSimpArgs false
set_option linter.unusedVariables false
namespace Go.Proofs.Ytjpkeliliahjoaa
open Go Go.Eng Go.Proofs

theorem c73 : PureFn Try.prog 73 s73 (pre 73) (phi 73) := by
  refine pureFn_auto (given := []) mix (con_nil (Φ := phi) (Pre := pre)) Try.func73 (by kernel_rfl) (v := vc73) (by kernel_rfl) ?_
  intro ds h hp
  obtain ⟨a, _, rfl, ⟨a, rfl, ha⟩, b, _, rfl, ⟨b, rfl, hb⟩, c, _, rfl, ⟨c, rfl, hc⟩, rfl⟩ := h
  simp [vc73, vh_obl, vh_call, vh_room, vh_branch, vh_loop, vh_again, vh_ret, vh_any, vh_hav, den, B.den, phi, within, toI_int, toB_bool]
theorem con73 : Con Try.prog pre phi tb73 := con_cons c73 con_nil

theorem c72 : PureFn Try.prog 72 s72 (pre 72) (phi 72) := by
  refine pureFn_auto (given := []) mix con73 Try.func72 (by kernel_rfl) (v := vc72) (by kernel_rfl) ?_
  intro ds h hp
  obtain ⟨a, _, rfl, ⟨a, rfl, ha⟩, _, _, rfl, ⟨_, rfl, b, _, rfl, ⟨b, rfl, hb⟩, rfl⟩, rfl⟩ := h
  simp [vc72, vh_obl, vh_call, vh_room, vh_branch, vh_loop, vh_again, vh_ret, vh_any, vh_hav, pre, updV, den, U.den, B.den, upd, condB, toL_list, toL_agg, toL_tup, toL_ptr, toL_fn, toI_int, toB_bool, phi, within, I]
theorem con72 : Con Try.prog pre phi tb72 := con_cons c72 con73

theorem c67 : PureFn Try.prog 67 s67 (pre 67) (phi 67) := by
  refine pureFn_auto (given := []) mix con72 Try.func67 (by kernel_rfl) (v := vc67) (by kernel_rfl) ?_
  intro ds h hp
  obtain ⟨_, _, rfl, ⟨_, rfl, a, _, rfl, ⟨a, rfl, ha⟩, b, _, rfl, ⟨b, rfl, hb⟩, rfl⟩, c, _, rfl, ⟨c, rfl, hc⟩, rfl⟩ := h
  simp [vc67, vh_obl, vh_call, vh_room, vh_branch, vh_loop, vh_again, vh_ret, vh_any, vh_hav, updV, den, U.den, B.den, upd, condB, toL_list, toL_agg, toL_tup, toL_ptr, toL_fn, toI_int, toB_bool, phi, pre, resOk, within, I]
theorem con67 : Con Try.prog pre phi tb67 := con_cons c67 con72

theorem c34 : PureFn Try.prog 34 s34 (pre 34) (phi 34) := by
  refine pureFn_auto (given := []) mix con67 Try.func34 (by kernel_rfl) (v := vc34) (by kernel_rfl) ?_
  intro ds h hp
  obtain ⟨x, _, rfl, gx, y, _, rfl, gy, rfl⟩ := h
  obtain ⟨x, rfl, hx⟩ := ARes.cases gx
  obtain ⟨y, rfl, hy⟩ := ARes.cases gy
  have h1 := in64_iff.1 hx.CPU; have h2 := in64_iff.1 hx.Mem; have h3 := in64_iff.1 hy.CPU; have h4 := in64_iff.1 hy.Mem
  simp only [vc34, vh_obl, vh_call, vh_room, vh_branch, vh_loop, vh_again, vh_ret, vh_any, vh_hav, pre, implies_true, true_and, forall_eq]
  have hr : ∀ (u v m : Int), phi 67 [.agg [.int .i64 u, .int .i64 v], .int .i64 m] = .bool (resOk u v m) := fun _ _ _ => rfl
  have hR : phi 34 [x.enc, y.enc] = addD x y := rfl
  simp [updV, den, U.den, B.den, upd, condB, toL_list, toL_agg, toL_tup, toL_ptr, toL_fn, toI_int, toB_bool, hr, hR, ARes.toL, addD, addR, sumOk]
  refine ⟨fun h => by rcases h with h | h <;> simp [M] at h ⊢ <;> simp [h, ARes.enc], fun h1 h2 => ?_⟩
  have b1 := resOk_le h1
  have b2 := resOk_le h2
  rw [wrap64 (by omega) (by omega), wrap64 (by omega) (by omega)]
  exact ⟨fun h => by simp [M, h, ARes.enc], fun h => by simp [M, h1, h2, h, ARes.enc]⟩
theorem con34 : Con Try.prog pre phi tb34 := con_cons c34 con67

theorem c68 : PureFn Try.prog 68 s68 (pre 68) (phi 68) := by
  refine pureFn_auto (given := []) mix con34 Try.func68 (by kernel_rfl) (v := vc68) (by kernel_rfl) ?_
  intro ds h hp
  obtain ⟨_, _, rfl, ⟨a, rfl, ha⟩, _, _, rfl, ⟨b, rfl, hb⟩, rfl⟩ := h
  rw [inK64] at ha hb
  simp only [vc68, vh_obl, vh_call, vh_room, vh_branch, vh_loop, vh_again, vh_ret, vh_any, vh_hav, pre, implies_true, true_and, forall_eq]
  simp only [updV, den, U.den, B.den, upd, condB, toL_list, toL_agg, toL_tup, toL_ptr, toL_fn, toI_int, toB_bool, phi, sum1, M, within, List.getD_cons_zero, List.getD_cons_succ, Bool.or_eq_true, Bool.or_eq_false_iff, decide_eq_true_eq, decide_eq_false_iff_not, Bool.and_eq_true]
  constructor
  · intro h
    rw [if_neg]
    intro h2
    rcases h with h | h
    · omega
    · rw [wrap64 (by omega) (by omega)] at h; omega
  · rintro ⟨h, h2⟩
    rw [wrap64 (by omega) (by omega)] at h2 ⊢
    rw [if_pos (by omega)]
theorem con68 : Con Try.prog pre phi tb68 := con_cons c68 con34

theorem c35 : PureFn Try.prog 35 s35 (pre 35) (phi 35) := by
  refine pureFn_auto (given := []) mix con68 Try.func35 (by kernel_rfl) (v := vc35) (by kernel_rfl) ?_
  intro ds h hp
  obtain ⟨x, _, rfl, gx, y, _, rfl, gy, rfl⟩ := h
  obtain ⟨x, rfl, hx⟩ := ARes.cases gx
  obtain ⟨y, rfl, hy⟩ := ARes.cases gy
  simp only [vc35, vh_obl, vh_call, vh_room, vh_branch, vh_loop, vh_again, vh_ret, vh_any, vh_hav, pre, implies_true, true_and, forall_eq]
  have hr : ∀ (u v : Int), phi 68 [.int .i64 u, .int .i64 v] = sum1 u v := fun _ _ => rfl
  have hR : phi 35 [x.enc, y.enc] = addD x y := rfl
  have hs : ∀ x y : Int, sum1 x y = .tup [.int .i64 (if 0 ≤ x ∧ 0 ≤ y ∧ x + y ≤ M then x + y else 0), .bool (decide (0 ≤ x ∧ 0 ≤ y ∧ x + y ≤ M))] := by
    intro x y
    unfold sum1 within M
    by_cases h : 0 ≤ x ∧ 0 ≤ y ∧ x + y ≤ 1152921504606846976
    · rw [if_pos (by simp; omega), if_pos h]; simp [h]
    · rw [if_neg (by simp; omega), if_neg h]; simp [h]
  simp [updV, den, U.den, B.den, upd, condB, toL_list, toL_agg, toL_tup, toL_ptr, toL_fn, toI_int, toB_bool, hr, hR, hs, ARes.toL, addD, addR]
  by_cases h : sumOk x y = true
  · have h' := sumOk_iff.1 h
    simp [h, h', ARes.enc]
  · have h' : ¬ ((0 ≤ x.CPU ∧ 0 ≤ y.CPU ∧ x.CPU + y.CPU ≤ M) ∧ (0 ≤ x.Mem ∧ 0 ≤ y.Mem ∧ x.Mem + y.Mem ≤ M)) := fun hh => h (sumOk_iff.2 (by omega))
    have h2 : sumOk x y = false := by simpa using h
    simp [h2, ARes.enc]
    omega
theorem con35 : Con Try.prog pre phi tb35 := con_cons c35 con68

theorem c28 : PureFn Try.prog 28 s28 (pre 28) (phi 28) := by
  refine pureFn_auto (given := []) mix con35 Try.func28 (by kernel_rfl) (v := vc28) (by kernel_rfl) ?_
  intro ds h hp
  obtain ⟨x, _, rfl, gx, rfl⟩ := h
  obtain ⟨x, rfl, hx⟩ := AAlc.cases gx
  have hR : phi 28 [x.enc] = .bool (over x) := rfl
  simp [vc28, vh_obl, vh_call, vh_room, vh_branch, vh_loop, vh_again, vh_ret, vh_any, vh_hav, updV, den, U.den, B.den, upd, condB, toL_list, toL_agg, toL_tup, toL_ptr, toL_fn, toI_int, toB_bool, hR, AAlc.toL, over]
theorem con28 : Con Try.prog pre phi tb28 := con_cons c28 con35

theorem c29 : PureFn Try.prog 29 s29 (pre 29) (phi 29) := by
  refine pureFn_auto (given := []) mix con28 Try.func29 (by kernel_rfl) (v := vc29) (by kernel_rfl) ?_
  intro ds h hp
  obtain ⟨x, _, rfl, gx, rfl⟩ := h
  obtain ⟨x, rfl, hx⟩ := AAlc.cases gx
  have hR : phi 29 [x.enc] = .bool (over x) := rfl
  simp [vc29, vh_obl, vh_call, vh_room, vh_branch, vh_loop, vh_again, vh_ret, vh_any, vh_hav, updV, den, U.den, B.den, upd, condB, toL_list, toL_agg, toL_tup, toL_ptr, toL_fn, toI_int, toB_bool, hR, AAlc.toL, over]
theorem con29 : Con Try.prog pre phi tb29 := con_cons c29 con28

theorem c37 : PureFn Try.prog 37 s37 (pre 37) (phi 37) := by
  refine pureFn_auto (given := []) mix con29 Try.func37 (by kernel_rfl) (v := vc37) (by kernel_rfl) ?_
  intro ds h hp
  obtain ⟨x, _, rfl, gx, _, _, rfl, ⟨_, rfl, _, _, rfl, ⟨j, rfl, _⟩, rfl⟩, _, _, rfl, ⟨_, rfl, _, _, rfl, ⟨g, rfl, _⟩, rfl⟩, _, _, rfl, ⟨_, rfl, _, _, rfl, ⟨k, rfl, _⟩, rfl⟩, rfl⟩ := h
  obtain ⟨x, rfl, hx⟩ := AAlc.cases gx
  have hR : phi 37 [x.enc, .ptr [.int .i64 j], .ptr [.int .i64 g], .ptr [.int .i64 k]] = .bool (isSlot j g k x) := rfl
  have ho : phi 28 [x.enc] = .bool (over x) := rfl
  have ho2 := ho
  rw [AAlc.enc] at ho2
  simp [vc37, vh_obl, vh_call, vh_room, vh_branch, vh_loop, vh_again, vh_ret, vh_any, vh_hav, pre, updV, den, U.den, B.den, upd, condB, toL_list, toL_agg, toL_tup, toL_ptr, toL_fn, toI_int, toB_bool, hR, AAlc.toL, ho, ho2, isSlot]
theorem con37 : Con Try.prog pre phi tb37 := con_cons c37 con29

theorem cslotAt : PureFn Try.prog 36 sslotAt (pre 36) (phi 36) := by
  refine pureFn_auto (given := []) mix con37 Try.func36 (by kernel_rfl) (v := vcslotAt) (by kernel_rfl) ?_
  intro ds h hp
  obtain ⟨_, _, rfl, gl, _, _, rfl, ⟨cap, rfl, hcap⟩, rfl⟩ := h
  obtain ⟨l, rfl, hl, hg⟩ := AAlc.cases_l gl
  obtain ⟨_, _, rfl, ⟨_, rfl, _, _, rfl, ⟨j, rfl, _⟩, rfl⟩, _, _, rfl, ⟨_, rfl, _, _, rfl, ⟨g, rfl, _⟩, rfl⟩, _, _, rfl, ⟨_, rfl, _, _, rfl, ⟨k, rfl, _⟩, rfl⟩, rfl⟩ := hcap
  simp only [vcslotAt, vh_obl, vh_call, vh_room, vh_branch, vh_loop, vh_again, vh_ret, vh_any, vh_hav, pre, implies_true, true_and, forall_eq]
  refine LoopOk.intro (FJ (isSlot j g k) l 1) (FM l 1) (FJ.start _ _ rfl) ?_
  intro xs hxs hJ
  obtain ⟨_, _, rfl, ⟨z, rfl, _⟩, _, _, rfl, ⟨i, rfl, _⟩, rfl⟩ := hxs
  obtain ⟨n, hn, hle, hf⟩ := hJ
  obtain rfl : i = n := hn
  have hR : phi 36 [encL AAlc.enc l, .fn 37 [.ptr [.int .i64 j], .ptr [.int .i64 g], .ptr [.int .i64 k]]] = .int .i64 (findF (isSlot j g k) l 0) := by simp [phi, AAlc.decl, fnId, I, updV, den, U.den, B.den, upd, condB, toL_list, toL_agg, toL_tup, toL_ptr, toL_fn, toI_int, toB_bool]
  have hC : ∀ x : AAlc, phi 37 [x.enc, .ptr [.int .i64 j], .ptr [.int .i64 g], .ptr [.int .i64 k]] = .bool (isSlot j g k x) := fun _ => rfl
  rcases hx : l[n]? with _ | x
  · have hge := ge_none hx
    have hd := FJ.done hx hf
    simp [updV, den, U.den, B.den, upd, condB, toL_list, toL_agg, toL_tup, toL_ptr, toL_fn, toI_int, toB_bool, encL_toL, hR, hd]
    try omega
  · obtain ⟨hlt, hge⟩ := List.getElem?_eq_some_iff.1 hx
    have hw := next64 hl.1 hlt
    simp [updV, den, U.den, B.den, upd, condB, toL_list, toL_agg, toL_tup, toL_ptr, toL_fn, toI_int, toB_bool, encL_toL, hR, hge, hlt, hC, hw]
    exact ⟨fun hp => (FJ.hit hx hf hp).symm, fun hp => FJ.next hx hf hp rfl rfl⟩
theorem conslotAt : Con Try.prog pre phi tbslotAt := con_cons cslotAt con37

theorem c12 : PureFn Try.prog 12 s12 (pre 12) (phi 12) := by
  refine pureFn_auto (given := []) mix conslotAt Try.func12 (by kernel_rfl) (v := vc12) (by kernel_rfl) ?_
  intro ds h hp
  obtain ⟨x, _, rfl, gx, _, _, rfl, ⟨j, rfl, _⟩, _, _, rfl, ⟨g, rfl, _⟩, _, _, rfl, ⟨k, rfl, _⟩, rfl⟩ := h
  obtain ⟨s, rfl, hs⟩ := AStore.cases gx
  have hR : phi 12 [s.enc, .int .i64 j, .int .i64 g, .int .i64 k] = .int .i64 (findF (isSlot j g k) s.Allocs 0) := by simp [phi, AStore.dec_enc, updV, den, U.den, B.den, upd, condB, toL_list, toL_agg, toL_tup, toL_ptr, toL_fn, toI_int, toB_bool, slotI]
  have hC : phi 36 [encL AAlc.enc s.Allocs, .fn 37 [.ptr [.int .i64 j], .ptr [.int .i64 g], .ptr [.int .i64 k]]] = .int .i64 (findF (isSlot j g k) s.Allocs 0) := by simp [phi, AAlc.decl, fnId, I, updV, den, U.den, B.den, upd, condB, toL_list, toL_agg, toL_tup, toL_ptr, toL_fn, toI_int, toB_bool]
  simp [vc12, vh_obl, vh_call, vh_room, vh_branch, vh_loop, vh_again, vh_ret, vh_any, vh_hav, pre, updV, den, U.den, B.den, upd, condB, toL_list, toL_agg, toL_tup, toL_ptr, toL_fn, toI_int, toB_bool, AStore.toL, hR, hC]
theorem con12 : Con Try.prog pre phi tb12 := con_cons c12 conslotAt

theorem c13 : PureFn Try.prog 13 s13 (pre 13) (phi 13) := by
  refine pureFn_auto (given := []) mix con12 Try.func13 (by kernel_rfl) (v := vc13) (by kernel_rfl) ?_
  intro ds h hp
  obtain ⟨x, _, rfl, gx, _, _, rfl, ⟨j, rfl, _⟩, _, _, rfl, ⟨g, rfl, _⟩, _, _, rfl, ⟨k, rfl, _⟩, rfl⟩ := h
  obtain ⟨s, rfl, hs⟩ := AStore.cases gx
  have hR : phi 13 [s.enc, .int .i64 j, .int .i64 g, .int .i64 k] = .int .i64 (findF (isSlot j g k) s.Allocs 0) := by simp [phi, AStore.dec_enc, updV, den, U.den, B.den, upd, condB, toL_list, toL_agg, toL_tup, toL_ptr, toL_fn, toI_int, toB_bool, slotI]
  simp only [vc13, vh_obl, vh_call, vh_room, vh_branch, vh_loop, vh_again, vh_ret, vh_any, vh_hav, pre, implies_true, true_and, forall_eq]
  refine LoopOk.intro (FJ (isSlot j g k) s.Allocs 1) (FM s.Allocs 1) (FJ.start _ _ rfl) ?_
  intro xs hxs hJ
  obtain ⟨_, _, rfl, ⟨z, rfl, _⟩, _, _, rfl, ⟨i, rfl, _⟩, rfl⟩ := hxs
  obtain ⟨n, hn, hle, hf⟩ := hJ
  obtain rfl : i = n := hn
  rcases hx : s.Allocs[n]? with _ | x
  · have hge := ge_none hx
    have hd := FJ.done hx hf
    simp [updV, den, U.den, B.den, upd, condB, toL_list, toL_agg, toL_tup, toL_ptr, toL_fn, toI_int, toB_bool, AStore.toL, encL_toL, hR, hd]
    try omega
  · obtain ⟨hlt, hge⟩ := List.getElem?_eq_some_iff.1 hx
    have hw := next64 hs.Allocs.1.1 hlt
    simp [updV, den, U.den, B.den, upd, condB, toL_list, toL_agg, toL_tup, toL_ptr, toL_fn, toI_int, toB_bool, AStore.toL, encL_toL, hR, hge, hlt, hw, AAlc.toL]
    refine ⟨fun h1 h2 h3 h4 => (FJ.hit hx hf ?_).symm, fun hp => FJ.next hx hf ?_ rfl rfl⟩
    · simp [isSlot, over, h1, h2, h3]; omega
    · cases hs : isSlot j g k x with
      | false => rfl
      | true =>
        simp [isSlot, over] at hs
        have := hp hs.1.1.1 hs.1.1.2 hs.1.2
        omega
theorem con13 : Con Try.prog pre phi tb13 := con_cons c13 con12

theorem c41 : PureFn Try.prog 41 s41 (pre 41) (phi 41) := by
  refine pureFn_auto (given := []) mix con13 Try.func41 (by kernel_rfl) (v := vc41) (by kernel_rfl) ?_
  intro ds h hp
  obtain ⟨x, _, rfl, gx, _, _, rfl, ⟨_, rfl, _, _, rfl, ⟨id, rfl, _⟩, rfl⟩, rfl⟩ := h
  obtain ⟨x, rfl, hx⟩ := AJob.cases gx
  have hR : phi 41 [x.enc, .ptr [.int .i64 id]] = .bool (x.ID == id) := by simp [phi, AJob.dec_enc, I, updV, den, U.den, B.den, upd, condB, toL_list, toL_agg, toL_tup, toL_ptr, toL_fn, toI_int, toB_bool]
  simp [vc41, vh_obl, vh_call, vh_room, vh_branch, vh_loop, vh_again, vh_ret, vh_any, vh_hav, updV, den, U.den, B.den, upd, condB, toL_list, toL_agg, toL_tup, toL_ptr, toL_fn, toI_int, toB_bool, hR, AJob.toL]
theorem con41 : Con Try.prog pre phi tb41 := con_cons c41 con13

theorem catJob : PureFn Try.prog 40 satJob (pre 40) (phi 40) := by
  refine pureFn_auto (given := []) mix con41 Try.func40 (by kernel_rfl) (v := vcatJob) (by kernel_rfl) ?_
  intro ds h hp
  obtain ⟨_, _, rfl, gl, _, _, rfl, ⟨cap, rfl, hcap⟩, rfl⟩ := h
  obtain ⟨l, rfl, hl, hg⟩ := AJob.cases_l gl
  obtain ⟨_, _, rfl, ⟨_, rfl, _, _, rfl, ⟨id, rfl, _⟩, rfl⟩, rfl⟩ := hcap
  simp only [vcatJob, vh_obl, vh_call, vh_room, vh_branch, vh_loop, vh_again, vh_ret, vh_any, vh_hav, pre, implies_true, true_and, forall_eq]
  refine LoopOk.intro (FJ (fun x => x.ID == id) l 1) (FM l 1) (FJ.start _ _ rfl) ?_
  intro xs hxs hJ
  obtain ⟨_, _, rfl, ⟨k, rfl, _⟩, _, _, rfl, ⟨i, rfl, _⟩, rfl⟩ := hxs
  obtain ⟨n, hn, hle, hf⟩ := hJ
  obtain rfl : i = n := hn
  have hR : phi 40 [encL AJob.enc l, .fn 41 [.ptr [.int .i64 id]]] = .int .i64 (findF (fun x => x.ID == id) l 0) := by simp [phi, AJob.decl, fnId, I, updV, den, U.den, B.den, upd, condB, toL_list, toL_agg, toL_tup, toL_ptr, toL_fn, toI_int, toB_bool]
  have hC : ∀ x : AJob, phi 41 [x.enc, .ptr [.int .i64 id]] = .bool (x.ID == id) := by intro x; simp [phi, AJob.dec_enc, I, updV, den, U.den, B.den, upd, condB, toL_list, toL_agg, toL_tup, toL_ptr, toL_fn, toI_int, toB_bool]
  rcases hx : l[n]? with _ | x
  · have hge := ge_none hx
    have hd := FJ.done hx hf
    simp [updV, den, U.den, B.den, upd, condB, toL_list, toL_agg, toL_tup, toL_ptr, toL_fn, toI_int, toB_bool, encL_toL, hR, hd]
    try omega
  · obtain ⟨hlt, hge⟩ := List.getElem?_eq_some_iff.1 hx
    have hw := next64 hl.1 hlt
    simp [updV, den, U.den, B.den, upd, condB, toL_list, toL_agg, toL_tup, toL_ptr, toL_fn, toI_int, toB_bool, encL_toL, hR, hge, hlt, hC, hw]
    exact ⟨fun hp => (FJ.hit hx hf (by simpa using hp)).symm, fun hp => FJ.next hx hf (by simpa using hp) rfl rfl⟩
theorem conatJob : Con Try.prog pre phi tbatJob := con_cons catJob con41

theorem c16 : PureFn Try.prog 16 s16 (pre 16) (phi 16) := by
  refine pureFn_auto (given := []) mix conatJob Try.func16 (by kernel_rfl) (v := vc16) (by kernel_rfl) ?_
  intro ds h hp
  obtain ⟨x, _, rfl, gx, _, _, rfl, ⟨id, rfl, _⟩, rfl⟩ := h
  obtain ⟨s, rfl, hs⟩ := AStore.cases gx
  have hR : phi 16 [s.enc, .int .i64 id] = .int .i64 (findF (fun x => x.ID == id) s.Jobs 0) := by simp [phi, AStore.dec_enc, updV, den, U.den, B.den, upd, condB, toL_list, toL_agg, toL_tup, toL_ptr, toL_fn, toI_int, toB_bool, jobI]
  have hC : phi 40 [encL AJob.enc s.Jobs, .fn 41 [.ptr [.int .i64 id]]] = .int .i64 (findF (fun x => x.ID == id) s.Jobs 0) := by simp [phi, AJob.decl, fnId, I, updV, den, U.den, B.den, upd, condB, toL_list, toL_agg, toL_tup, toL_ptr, toL_fn, toI_int, toB_bool]
  simp [vc16, vh_obl, vh_call, vh_room, vh_branch, vh_loop, vh_again, vh_ret, vh_any, vh_hav, pre, updV, den, U.den, B.den, upd, condB, toL_list, toL_agg, toL_tup, toL_ptr, toL_fn, toI_int, toB_bool, AStore.toL, hR, hC]
theorem con16 : Con Try.prog pre phi tb16 := con_cons c16 conatJob

theorem c17 : PureFn Try.prog 17 s17 (pre 17) (phi 17) := by
  refine pureFn_auto (given := []) mix con16 Try.func17 (by kernel_rfl) (v := vc17) (by kernel_rfl) ?_
  intro ds h hp
  obtain ⟨x, _, rfl, gx, _, _, rfl, ⟨id, rfl, _⟩, rfl⟩ := h
  obtain ⟨s, rfl, hs⟩ := AStore.cases gx
  have hR : phi 17 [s.enc, .int .i64 id] = .int .i64 (findF (fun x => x.ID == id) s.Jobs 0) := by simp [phi, AStore.dec_enc, updV, den, U.den, B.den, upd, condB, toL_list, toL_agg, toL_tup, toL_ptr, toL_fn, toI_int, toB_bool, jobI]
  simp only [vc17, vh_obl, vh_call, vh_room, vh_branch, vh_loop, vh_again, vh_ret, vh_any, vh_hav, pre, implies_true, true_and, forall_eq]
  refine LoopOk.intro (FJ (fun x => x.ID == id) s.Jobs 1) (FM s.Jobs 1) (FJ.start _ _ rfl) ?_
  intro xs hxs hJ
  obtain ⟨_, _, rfl, ⟨k, rfl, _⟩, _, _, rfl, ⟨i, rfl, _⟩, rfl⟩ := hxs
  obtain ⟨n, hn, hle, hf⟩ := hJ
  obtain rfl : i = n := hn
  rcases hx : s.Jobs[n]? with _ | x
  · have hge := ge_none hx
    have hd := FJ.done hx hf
    simp [updV, den, U.den, B.den, upd, condB, toL_list, toL_agg, toL_tup, toL_ptr, toL_fn, toI_int, toB_bool, AStore.toL, encL_toL, hR, hd]
    try omega
  · obtain ⟨hlt, hge⟩ := List.getElem?_eq_some_iff.1 hx
    have hw := next64 hs.Jobs.1.1 hlt
    simp [updV, den, U.den, B.den, upd, condB, toL_list, toL_agg, toL_tup, toL_ptr, toL_fn, toI_int, toB_bool, AStore.toL, encL_toL, hR, hge, hlt, hw, AJob.toL]
    exact ⟨fun hp => (FJ.hit hx hf (by simpa using hp)).symm, fun hp => FJ.next hx hf (by simpa using hp) rfl rfl⟩
theorem con17 : Con Try.prog pre phi tb17 := con_cons c17 con16

theorem c43 : PureFn Try.prog 43 s43 (pre 43) (phi 43) := by
  refine pureFn_auto (given := []) mix con17 Try.func43 (by kernel_rfl) (v := vc43) (by kernel_rfl) ?_
  intro ds h hp
  obtain ⟨x, _, rfl, gx, _, _, rfl, ⟨_, rfl, _, _, rfl, ⟨id, rfl, _⟩, rfl⟩, rfl⟩ := h
  obtain ⟨x, rfl, hx⟩ := ANode.cases gx
  have hR : phi 43 [x.enc, .ptr [.int .i64 id]] = .bool (x.ID == id) := by simp [phi, ANode.dec_enc, I, updV, den, U.den, B.den, upd, condB, toL_list, toL_agg, toL_tup, toL_ptr, toL_fn, toI_int, toB_bool]
  simp [vc43, vh_obl, vh_call, vh_room, vh_branch, vh_loop, vh_again, vh_ret, vh_any, vh_hav, updV, den, U.den, B.den, upd, condB, toL_list, toL_agg, toL_tup, toL_ptr, toL_fn, toI_int, toB_bool, hR, ANode.toL]
theorem con43 : Con Try.prog pre phi tb43 := con_cons c43 con17

theorem catNode : PureFn Try.prog 42 satNode (pre 42) (phi 42) := by
  refine pureFn_auto (given := []) mix con43 Try.func42 (by kernel_rfl) (v := vcatNode) (by kernel_rfl) ?_
  intro ds h hp
  obtain ⟨_, _, rfl, gl, _, _, rfl, ⟨cap, rfl, hcap⟩, rfl⟩ := h
  obtain ⟨l, rfl, hl, hg⟩ := ANode.cases_l gl
  obtain ⟨_, _, rfl, ⟨_, rfl, _, _, rfl, ⟨id, rfl, _⟩, rfl⟩, rfl⟩ := hcap
  simp only [vcatNode, vh_obl, vh_call, vh_room, vh_branch, vh_loop, vh_again, vh_ret, vh_any, vh_hav, pre, implies_true, true_and, forall_eq]
  refine LoopOk.intro (FJ (fun x => x.ID == id) l 1) (FM l 1) (FJ.start _ _ rfl) ?_
  intro xs hxs hJ
  obtain ⟨_, _, rfl, ⟨k, rfl, _⟩, _, _, rfl, ⟨i, rfl, _⟩, rfl⟩ := hxs
  obtain ⟨n, hn, hle, hf⟩ := hJ
  obtain rfl : i = n := hn
  have hR : phi 42 [encL ANode.enc l, .fn 43 [.ptr [.int .i64 id]]] = .int .i64 (findF (fun x => x.ID == id) l 0) := by simp [phi, ANode.decl, fnId, I, updV, den, U.den, B.den, upd, condB, toL_list, toL_agg, toL_tup, toL_ptr, toL_fn, toI_int, toB_bool]
  have hC : ∀ x : ANode, phi 43 [x.enc, .ptr [.int .i64 id]] = .bool (x.ID == id) := by intro x; simp [phi, ANode.dec_enc, I, updV, den, U.den, B.den, upd, condB, toL_list, toL_agg, toL_tup, toL_ptr, toL_fn, toI_int, toB_bool]
  rcases hx : l[n]? with _ | x
  · have hge := ge_none hx
    have hd := FJ.done hx hf
    simp [updV, den, U.den, B.den, upd, condB, toL_list, toL_agg, toL_tup, toL_ptr, toL_fn, toI_int, toB_bool, encL_toL, hR, hd]
    try omega
  · obtain ⟨hlt, hge⟩ := List.getElem?_eq_some_iff.1 hx
    have hw := next64 hl.1 hlt
    simp [updV, den, U.den, B.den, upd, condB, toL_list, toL_agg, toL_tup, toL_ptr, toL_fn, toI_int, toB_bool, encL_toL, hR, hge, hlt, hC, hw]
    exact ⟨fun hp => (FJ.hit hx hf (by simpa using hp)).symm, fun hp => FJ.next hx hf (by simpa using hp) rfl rfl⟩
theorem conatNode : Con Try.prog pre phi tbatNode := con_cons catNode con43

theorem c18 : PureFn Try.prog 18 s18 (pre 18) (phi 18) := by
  refine pureFn_auto (given := []) mix conatNode Try.func18 (by kernel_rfl) (v := vc18) (by kernel_rfl) ?_
  intro ds h hp
  obtain ⟨x, _, rfl, gx, _, _, rfl, ⟨id, rfl, _⟩, rfl⟩ := h
  obtain ⟨s, rfl, hs⟩ := AStore.cases gx
  have hR : phi 18 [s.enc, .int .i64 id] = .int .i64 (findF (fun x => x.ID == id) s.Nodes 0) := by simp [phi, AStore.dec_enc, updV, den, U.den, B.den, upd, condB, toL_list, toL_agg, toL_tup, toL_ptr, toL_fn, toI_int, toB_bool, nodeI]
  have hC : phi 42 [encL ANode.enc s.Nodes, .fn 43 [.ptr [.int .i64 id]]] = .int .i64 (findF (fun x => x.ID == id) s.Nodes 0) := by simp [phi, ANode.decl, fnId, I, updV, den, U.den, B.den, upd, condB, toL_list, toL_agg, toL_tup, toL_ptr, toL_fn, toI_int, toB_bool]
  simp [vc18, vh_obl, vh_call, vh_room, vh_branch, vh_loop, vh_again, vh_ret, vh_any, vh_hav, pre, updV, den, U.den, B.den, upd, condB, toL_list, toL_agg, toL_tup, toL_ptr, toL_fn, toI_int, toB_bool, AStore.toL, hR, hC]
theorem con18 : Con Try.prog pre phi tb18 := con_cons c18 conatNode

theorem c19 : PureFn Try.prog 19 s19 (pre 19) (phi 19) := by
  refine pureFn_auto (given := []) mix con18 Try.func19 (by kernel_rfl) (v := vc19) (by kernel_rfl) ?_
  intro ds h hp
  obtain ⟨x, _, rfl, gx, _, _, rfl, ⟨id, rfl, _⟩, rfl⟩ := h
  obtain ⟨s, rfl, hs⟩ := AStore.cases gx
  have hR : phi 19 [s.enc, .int .i64 id] = .int .i64 (findF (fun x => x.ID == id) s.Nodes 0) := by simp [phi, AStore.dec_enc, updV, den, U.den, B.den, upd, condB, toL_list, toL_agg, toL_tup, toL_ptr, toL_fn, toI_int, toB_bool, nodeI]
  simp only [vc19, vh_obl, vh_call, vh_room, vh_branch, vh_loop, vh_again, vh_ret, vh_any, vh_hav, pre, implies_true, true_and, forall_eq]
  refine LoopOk.intro (FJ (fun x => x.ID == id) s.Nodes 1) (FM s.Nodes 1) (FJ.start _ _ rfl) ?_
  intro xs hxs hJ
  obtain ⟨_, _, rfl, ⟨k, rfl, _⟩, _, _, rfl, ⟨i, rfl, _⟩, rfl⟩ := hxs
  obtain ⟨n, hn, hle, hf⟩ := hJ
  obtain rfl : i = n := hn
  rcases hx : s.Nodes[n]? with _ | x
  · have hge := ge_none hx
    have hd := FJ.done hx hf
    simp [updV, den, U.den, B.den, upd, condB, toL_list, toL_agg, toL_tup, toL_ptr, toL_fn, toI_int, toB_bool, AStore.toL, encL_toL, hR, hd]
    try omega
  · obtain ⟨hlt, hge⟩ := List.getElem?_eq_some_iff.1 hx
    have hw := next64 hs.Nodes.1.1 hlt
    simp [updV, den, U.den, B.den, upd, condB, toL_list, toL_agg, toL_tup, toL_ptr, toL_fn, toI_int, toB_bool, AStore.toL, encL_toL, hR, hge, hlt, hw, ANode.toL]
    exact ⟨fun hp => (FJ.hit hx hf (by simpa using hp)).symm, fun hp => FJ.next hx hf (by simpa using hp) rfl rfl⟩
theorem con19 : Con Try.prog pre phi tb19 := con_cons c19 con18

theorem c44 : PureFn Try.prog 44 s44 (pre 44) (phi 44) := by
  refine pureFn_auto (given := []) mix con19 Try.func44 (by kernel_rfl) (v := vc44) (by kernel_rfl) ?_
  intro ds h hp
  obtain ⟨x, _, rfl, gx, _, _, rfl, ⟨_, rfl, _, _, rfl, ⟨id, rfl, _⟩, rfl⟩, rfl⟩ := h
  obtain ⟨x, rfl, hx⟩ := AAlc.cases gx
  have hR : phi 44 [x.enc, .ptr [.int .i64 id]] = .bool (x.ID == id) := by simp [phi, AAlc.dec_enc, I, updV, den, U.den, B.den, upd, condB, toL_list, toL_agg, toL_tup, toL_ptr, toL_fn, toI_int, toB_bool]
  simp [vc44, vh_obl, vh_call, vh_room, vh_branch, vh_loop, vh_again, vh_ret, vh_any, vh_hav, updV, den, U.den, B.den, upd, condB, toL_list, toL_agg, toL_tup, toL_ptr, toL_fn, toI_int, toB_bool, hR, AAlc.toL]
theorem con44 : Con Try.prog pre phi tb44 := con_cons c44 con19

theorem catAlloc : PureFn Try.prog 36 satAlloc (pre 36) (phi 36) := by
  refine pureFn_auto (given := []) mix con44 Try.func36 (by kernel_rfl) (v := vcatAlloc) (by kernel_rfl) ?_
  intro ds h hp
  obtain ⟨_, _, rfl, gl, _, _, rfl, ⟨cap, rfl, hcap⟩, rfl⟩ := h
  obtain ⟨l, rfl, hl, hg⟩ := AAlc.cases_l gl
  obtain ⟨_, _, rfl, ⟨_, rfl, _, _, rfl, ⟨id, rfl, _⟩, rfl⟩, rfl⟩ := hcap
  simp only [vcatAlloc, vh_obl, vh_call, vh_room, vh_branch, vh_loop, vh_again, vh_ret, vh_any, vh_hav, pre, implies_true, true_and, forall_eq]
  refine LoopOk.intro (FJ (fun x => x.ID == id) l 1) (FM l 1) (FJ.start _ _ rfl) ?_
  intro xs hxs hJ
  obtain ⟨_, _, rfl, ⟨k, rfl, _⟩, _, _, rfl, ⟨i, rfl, _⟩, rfl⟩ := hxs
  obtain ⟨n, hn, hle, hf⟩ := hJ
  obtain rfl : i = n := hn
  have hR : phi 36 [encL AAlc.enc l, .fn 44 [.ptr [.int .i64 id]]] = .int .i64 (findF (fun x => x.ID == id) l 0) := by simp [phi, AAlc.decl, fnId, I, updV, den, U.den, B.den, upd, condB, toL_list, toL_agg, toL_tup, toL_ptr, toL_fn, toI_int, toB_bool]
  have hC : ∀ x : AAlc, phi 44 [x.enc, .ptr [.int .i64 id]] = .bool (x.ID == id) := by intro x; simp [phi, AAlc.dec_enc, I, updV, den, U.den, B.den, upd, condB, toL_list, toL_agg, toL_tup, toL_ptr, toL_fn, toI_int, toB_bool]
  rcases hx : l[n]? with _ | x
  · have hge := ge_none hx
    have hd := FJ.done hx hf
    simp [updV, den, U.den, B.den, upd, condB, toL_list, toL_agg, toL_tup, toL_ptr, toL_fn, toI_int, toB_bool, encL_toL, hR, hd]
    try omega
  · obtain ⟨hlt, hge⟩ := List.getElem?_eq_some_iff.1 hx
    have hw := next64 hl.1 hlt
    simp [updV, den, U.den, B.den, upd, condB, toL_list, toL_agg, toL_tup, toL_ptr, toL_fn, toI_int, toB_bool, encL_toL, hR, hge, hlt, hC, hw]
    exact ⟨fun hp => (FJ.hit hx hf (by simpa using hp)).symm, fun hp => FJ.next hx hf (by simpa using hp) rfl rfl⟩
theorem conatAlloc : Con Try.prog pre phi tbatAlloc := con_cons catAlloc con44

theorem c20 : PureFn Try.prog 20 s20 (pre 20) (phi 20) := by
  refine pureFn_auto (given := []) mix conatAlloc Try.func20 (by kernel_rfl) (v := vc20) (by kernel_rfl) ?_
  intro ds h hp
  obtain ⟨x, _, rfl, gx, _, _, rfl, ⟨id, rfl, _⟩, rfl⟩ := h
  obtain ⟨s, rfl, hs⟩ := AStore.cases gx
  have hR : phi 20 [s.enc, .int .i64 id] = .int .i64 (findF (fun x => x.ID == id) s.Allocs 0) := by simp [phi, AStore.dec_enc, updV, den, U.den, B.den, upd, condB, toL_list, toL_agg, toL_tup, toL_ptr, toL_fn, toI_int, toB_bool, allocI]
  have hC : phi 36 [encL AAlc.enc s.Allocs, .fn 44 [.ptr [.int .i64 id]]] = .int .i64 (findF (fun x => x.ID == id) s.Allocs 0) := by simp [phi, AAlc.decl, fnId, I, updV, den, U.den, B.den, upd, condB, toL_list, toL_agg, toL_tup, toL_ptr, toL_fn, toI_int, toB_bool]
  simp [vc20, vh_obl, vh_call, vh_room, vh_branch, vh_loop, vh_again, vh_ret, vh_any, vh_hav, pre, updV, den, U.den, B.den, upd, condB, toL_list, toL_agg, toL_tup, toL_ptr, toL_fn, toI_int, toB_bool, AStore.toL, hR, hC]
theorem con20 : Con Try.prog pre phi tb20 := con_cons c20 conatAlloc

theorem c21 : PureFn Try.prog 21 s21 (pre 21) (phi 21) := by
  refine pureFn_auto (given := []) mix con20 Try.func21 (by kernel_rfl) (v := vc21) (by kernel_rfl) ?_
  intro ds h hp
  obtain ⟨x, _, rfl, gx, _, _, rfl, ⟨id, rfl, _⟩, rfl⟩ := h
  obtain ⟨s, rfl, hs⟩ := AStore.cases gx
  have hR : phi 21 [s.enc, .int .i64 id] = .int .i64 (findF (fun x => x.ID == id) s.Allocs 0) := by simp [phi, AStore.dec_enc, updV, den, U.den, B.den, upd, condB, toL_list, toL_agg, toL_tup, toL_ptr, toL_fn, toI_int, toB_bool, allocI]
  simp only [vc21, vh_obl, vh_call, vh_room, vh_branch, vh_loop, vh_again, vh_ret, vh_any, vh_hav, pre, implies_true, true_and, forall_eq]
  refine LoopOk.intro (FJ (fun x => x.ID == id) s.Allocs 1) (FM s.Allocs 1) (FJ.start _ _ rfl) ?_
  intro xs hxs hJ
  obtain ⟨_, _, rfl, ⟨k, rfl, _⟩, _, _, rfl, ⟨i, rfl, _⟩, rfl⟩ := hxs
  obtain ⟨n, hn, hle, hf⟩ := hJ
  obtain rfl : i = n := hn
  rcases hx : s.Allocs[n]? with _ | x
  · have hge := ge_none hx
    have hd := FJ.done hx hf
    simp [updV, den, U.den, B.den, upd, condB, toL_list, toL_agg, toL_tup, toL_ptr, toL_fn, toI_int, toB_bool, AStore.toL, encL_toL, hR, hd]
    try omega
  · obtain ⟨hlt, hge⟩ := List.getElem?_eq_some_iff.1 hx
    have hw := next64 hs.Allocs.1.1 hlt
    simp [updV, den, U.den, B.den, upd, condB, toL_list, toL_agg, toL_tup, toL_ptr, toL_fn, toI_int, toB_bool, AStore.toL, encL_toL, hR, hge, hlt, hw, AAlc.toL]
    exact ⟨fun hp => (FJ.hit hx hf (by simpa using hp)).symm, fun hp => FJ.next hx hf (by simpa using hp) rfl rfl⟩
theorem con21 : Con Try.prog pre phi tb21 := con_cons c21 con20

theorem c46 : PureFn Try.prog 46 s46 (pre 46) (phi 46) := by
  refine pureFn_auto (given := []) mix con21 Try.func46 (by kernel_rfl) (v := vc46) (by kernel_rfl) ?_
  intro ds h hp
  obtain ⟨x, _, rfl, gx, _, _, rfl, ⟨_, rfl, _, _, rfl, ⟨id, rfl, _⟩, rfl⟩, rfl⟩ := h
  obtain ⟨x, rfl, hx⟩ := AEvl.cases gx
  have hR : phi 46 [x.enc, .ptr [.int .i64 id]] = .bool (x.Job == id) := by simp [phi, AEvl.dec_enc, I, updV, den, U.den, B.den, upd, condB, toL_list, toL_agg, toL_tup, toL_ptr, toL_fn, toI_int, toB_bool]
  simp [vc46, vh_obl, vh_call, vh_room, vh_branch, vh_loop, vh_again, vh_ret, vh_any, vh_hav, updV, den, U.den, B.den, upd, condB, toL_list, toL_agg, toL_tup, toL_ptr, toL_fn, toI_int, toB_bool, hR, AEvl.toL]
theorem con46 : Con Try.prog pre phi tb46 := con_cons c46 con21

theorem catEval : PureFn Try.prog 45 satEval (pre 45) (phi 45) := by
  refine pureFn_auto (given := []) mix con46 Try.func45 (by kernel_rfl) (v := vcatEval) (by kernel_rfl) ?_
  intro ds h hp
  obtain ⟨_, _, rfl, gl, _, _, rfl, ⟨cap, rfl, hcap⟩, rfl⟩ := h
  obtain ⟨l, rfl, hl, hg⟩ := AEvl.cases_l gl
  obtain ⟨_, _, rfl, ⟨_, rfl, _, _, rfl, ⟨id, rfl, _⟩, rfl⟩, rfl⟩ := hcap
  simp only [vcatEval, vh_obl, vh_call, vh_room, vh_branch, vh_loop, vh_again, vh_ret, vh_any, vh_hav, pre, implies_true, true_and, forall_eq]
  refine LoopOk.intro (FJ (fun x => x.Job == id) l 1) (FM l 1) (FJ.start _ _ rfl) ?_
  intro xs hxs hJ
  obtain ⟨_, _, rfl, ⟨k, rfl, _⟩, _, _, rfl, ⟨i, rfl, _⟩, rfl⟩ := hxs
  obtain ⟨n, hn, hle, hf⟩ := hJ
  obtain rfl : i = n := hn
  have hR : phi 45 [encL AEvl.enc l, .fn 46 [.ptr [.int .i64 id]]] = .int .i64 (findF (fun x => x.Job == id) l 0) := by simp [phi, AEvl.decl, fnId, I, updV, den, U.den, B.den, upd, condB, toL_list, toL_agg, toL_tup, toL_ptr, toL_fn, toI_int, toB_bool]
  have hC : ∀ x : AEvl, phi 46 [x.enc, .ptr [.int .i64 id]] = .bool (x.Job == id) := by intro x; simp [phi, AEvl.dec_enc, I, updV, den, U.den, B.den, upd, condB, toL_list, toL_agg, toL_tup, toL_ptr, toL_fn, toI_int, toB_bool]
  rcases hx : l[n]? with _ | x
  · have hge := ge_none hx
    have hd := FJ.done hx hf
    simp [updV, den, U.den, B.den, upd, condB, toL_list, toL_agg, toL_tup, toL_ptr, toL_fn, toI_int, toB_bool, encL_toL, hR, hd]
    try omega
  · obtain ⟨hlt, hge⟩ := List.getElem?_eq_some_iff.1 hx
    have hw := next64 hl.1 hlt
    simp [updV, den, U.den, B.den, upd, condB, toL_list, toL_agg, toL_tup, toL_ptr, toL_fn, toI_int, toB_bool, encL_toL, hR, hge, hlt, hC, hw]
    exact ⟨fun hp => (FJ.hit hx hf (by simpa using hp)).symm, fun hp => FJ.next hx hf (by simpa using hp) rfl rfl⟩
theorem conatEval : Con Try.prog pre phi tbatEval := con_cons catEval con46

theorem c22 : PureFn Try.prog 22 s22 (pre 22) (phi 22) := by
  refine pureFn_auto (given := []) mix conatEval Try.func22 (by kernel_rfl) (v := vc22) (by kernel_rfl) ?_
  intro ds h hp
  obtain ⟨x, _, rfl, gx, _, _, rfl, ⟨id, rfl, _⟩, rfl⟩ := h
  obtain ⟨s, rfl, hs⟩ := AStore.cases gx
  have hR : phi 22 [s.enc, .int .i64 id] = .int .i64 (findF (fun x => x.Job == id) s.Evals 0) := by simp [phi, AStore.dec_enc, updV, den, U.den, B.den, upd, condB, toL_list, toL_agg, toL_tup, toL_ptr, toL_fn, toI_int, toB_bool, evalI]
  have hC : phi 45 [encL AEvl.enc s.Evals, .fn 46 [.ptr [.int .i64 id]]] = .int .i64 (findF (fun x => x.Job == id) s.Evals 0) := by simp [phi, AEvl.decl, fnId, I, updV, den, U.den, B.den, upd, condB, toL_list, toL_agg, toL_tup, toL_ptr, toL_fn, toI_int, toB_bool]
  simp [vc22, vh_obl, vh_call, vh_room, vh_branch, vh_loop, vh_again, vh_ret, vh_any, vh_hav, pre, updV, den, U.den, B.den, upd, condB, toL_list, toL_agg, toL_tup, toL_ptr, toL_fn, toI_int, toB_bool, AStore.toL, hR, hC]
theorem con22 : Con Try.prog pre phi tb22 := con_cons c22 conatEval

theorem c23 : PureFn Try.prog 23 s23 (pre 23) (phi 23) := by
  refine pureFn_auto (given := []) mix con22 Try.func23 (by kernel_rfl) (v := vc23) (by kernel_rfl) ?_
  intro ds h hp
  obtain ⟨x, _, rfl, gx, _, _, rfl, ⟨id, rfl, _⟩, rfl⟩ := h
  obtain ⟨s, rfl, hs⟩ := AStore.cases gx
  have hR : phi 23 [s.enc, .int .i64 id] = .int .i64 (findF (fun x => x.Job == id) s.Evals 0) := by simp [phi, AStore.dec_enc, updV, den, U.den, B.den, upd, condB, toL_list, toL_agg, toL_tup, toL_ptr, toL_fn, toI_int, toB_bool, evalI]
  simp only [vc23, vh_obl, vh_call, vh_room, vh_branch, vh_loop, vh_again, vh_ret, vh_any, vh_hav, pre, implies_true, true_and, forall_eq]
  refine LoopOk.intro (FJ (fun x => x.Job == id) s.Evals 1) (FM s.Evals 1) (FJ.start _ _ rfl) ?_
  intro xs hxs hJ
  obtain ⟨_, _, rfl, ⟨k, rfl, _⟩, _, _, rfl, ⟨i, rfl, _⟩, rfl⟩ := hxs
  obtain ⟨n, hn, hle, hf⟩ := hJ
  obtain rfl : i = n := hn
  rcases hx : s.Evals[n]? with _ | x
  · have hge := ge_none hx
    have hd := FJ.done hx hf
    simp [updV, den, U.den, B.den, upd, condB, toL_list, toL_agg, toL_tup, toL_ptr, toL_fn, toI_int, toB_bool, AStore.toL, encL_toL, hR, hd]
    try omega
  · obtain ⟨hlt, hge⟩ := List.getElem?_eq_some_iff.1 hx
    have hw := next64 hs.Evals.1.1 hlt
    simp [updV, den, U.den, B.den, upd, condB, toL_list, toL_agg, toL_tup, toL_ptr, toL_fn, toI_int, toB_bool, AStore.toL, encL_toL, hR, hge, hlt, hw, AEvl.toL]
    exact ⟨fun hp => (FJ.hit hx hf (by simpa using hp)).symm, fun hp => FJ.next hx hf (by simpa using hp) rfl rfl⟩
theorem con23 : Con Try.prog pre phi tb23 := con_cons c23 con22

theorem c48 : PureFn Try.prog 48 s48 (pre 48) (phi 48) := by
  refine pureFn_auto (given := []) mix con23 Try.func48 (by kernel_rfl) (v := vc48) (by kernel_rfl) ?_
  intro ds h hp
  obtain ⟨x, _, rfl, gx, _, _, rfl, ⟨_, rfl, _, _, rfl, ⟨id, rfl, _⟩, rfl⟩, rfl⟩ := h
  obtain ⟨x, rfl, hx⟩ := AEvl.cases gx
  have hR : phi 48 [x.enc, .ptr [.int .i64 id]] = .bool (x.Job == id) := by simp [phi, AEvl.dec_enc, I, updV, den, U.den, B.den, upd, condB, toL_list, toL_agg, toL_tup, toL_ptr, toL_fn, toI_int, toB_bool]
  simp [vc48, vh_obl, vh_call, vh_room, vh_branch, vh_loop, vh_again, vh_ret, vh_any, vh_hav, updV, den, U.den, B.den, upd, condB, toL_list, toL_agg, toL_tup, toL_ptr, toL_fn, toI_int, toB_bool, hR, AEvl.toL]
theorem con48 : Con Try.prog pre phi tb48 := con_cons c48 con23

theorem catDeploy : PureFn Try.prog 47 satDeploy (pre 47) (phi 47) := by
  refine pureFn_auto (given := []) mix con48 Try.func47 (by kernel_rfl) (v := vcatDeploy) (by kernel_rfl) ?_
  intro ds h hp
  obtain ⟨_, _, rfl, gl, _, _, rfl, ⟨cap, rfl, hcap⟩, rfl⟩ := h
  obtain ⟨l, rfl, hl, hg⟩ := AEvl.cases_l gl
  obtain ⟨_, _, rfl, ⟨_, rfl, _, _, rfl, ⟨id, rfl, _⟩, rfl⟩, rfl⟩ := hcap
  simp only [vcatDeploy, vh_obl, vh_call, vh_room, vh_branch, vh_loop, vh_again, vh_ret, vh_any, vh_hav, pre, implies_true, true_and, forall_eq]
  refine LoopOk.intro (FJ (fun x => x.Job == id) l 1) (FM l 1) (FJ.start _ _ rfl) ?_
  intro xs hxs hJ
  obtain ⟨_, _, rfl, ⟨k, rfl, _⟩, _, _, rfl, ⟨i, rfl, _⟩, rfl⟩ := hxs
  obtain ⟨n, hn, hle, hf⟩ := hJ
  obtain rfl : i = n := hn
  have hR : phi 47 [encL AEvl.enc l, .fn 48 [.ptr [.int .i64 id]]] = .int .i64 (findF (fun x => x.Job == id) l 0) := by simp [phi, AEvl.decl, fnId, I, updV, den, U.den, B.den, upd, condB, toL_list, toL_agg, toL_tup, toL_ptr, toL_fn, toI_int, toB_bool]
  have hC : ∀ x : AEvl, phi 48 [x.enc, .ptr [.int .i64 id]] = .bool (x.Job == id) := by intro x; simp [phi, AEvl.dec_enc, I, updV, den, U.den, B.den, upd, condB, toL_list, toL_agg, toL_tup, toL_ptr, toL_fn, toI_int, toB_bool]
  rcases hx : l[n]? with _ | x
  · have hge := ge_none hx
    have hd := FJ.done hx hf
    simp [updV, den, U.den, B.den, upd, condB, toL_list, toL_agg, toL_tup, toL_ptr, toL_fn, toI_int, toB_bool, encL_toL, hR, hd]
    try omega
  · obtain ⟨hlt, hge⟩ := List.getElem?_eq_some_iff.1 hx
    have hw := next64 hl.1 hlt
    simp [updV, den, U.den, B.den, upd, condB, toL_list, toL_agg, toL_tup, toL_ptr, toL_fn, toI_int, toB_bool, encL_toL, hR, hge, hlt, hC, hw]
    exact ⟨fun hp => (FJ.hit hx hf (by simpa using hp)).symm, fun hp => FJ.next hx hf (by simpa using hp) rfl rfl⟩
theorem conatDeploy : Con Try.prog pre phi tbatDeploy := con_cons catDeploy con48

theorem c24 : PureFn Try.prog 24 s24 (pre 24) (phi 24) := by
  refine pureFn_auto (given := []) mix conatDeploy Try.func24 (by kernel_rfl) (v := vc24) (by kernel_rfl) ?_
  intro ds h hp
  obtain ⟨x, _, rfl, gx, _, _, rfl, ⟨id, rfl, _⟩, rfl⟩ := h
  obtain ⟨s, rfl, hs⟩ := AStore.cases gx
  have hR : phi 24 [s.enc, .int .i64 id] = .int .i64 (findF (fun x => x.Job == id) s.Deploys 0) := by simp [phi, AStore.dec_enc, updV, den, U.den, B.den, upd, condB, toL_list, toL_agg, toL_tup, toL_ptr, toL_fn, toI_int, toB_bool, deployI]
  have hC : phi 47 [encL AEvl.enc s.Deploys, .fn 48 [.ptr [.int .i64 id]]] = .int .i64 (findF (fun x => x.Job == id) s.Deploys 0) := by simp [phi, AEvl.decl, fnId, I, updV, den, U.den, B.den, upd, condB, toL_list, toL_agg, toL_tup, toL_ptr, toL_fn, toI_int, toB_bool]
  simp [vc24, vh_obl, vh_call, vh_room, vh_branch, vh_loop, vh_again, vh_ret, vh_any, vh_hav, pre, updV, den, U.den, B.den, upd, condB, toL_list, toL_agg, toL_tup, toL_ptr, toL_fn, toI_int, toB_bool, AStore.toL, hR, hC]
theorem con24 : Con Try.prog pre phi tb24 := con_cons c24 conatDeploy

theorem c25 : PureFn Try.prog 25 s25 (pre 25) (phi 25) := by
  refine pureFn_auto (given := []) mix con24 Try.func25 (by kernel_rfl) (v := vc25) (by kernel_rfl) ?_
  intro ds h hp
  obtain ⟨x, _, rfl, gx, _, _, rfl, ⟨id, rfl, _⟩, rfl⟩ := h
  obtain ⟨s, rfl, hs⟩ := AStore.cases gx
  have hR : phi 25 [s.enc, .int .i64 id] = .int .i64 (findF (fun x => x.Job == id) s.Deploys 0) := by simp [phi, AStore.dec_enc, updV, den, U.den, B.den, upd, condB, toL_list, toL_agg, toL_tup, toL_ptr, toL_fn, toI_int, toB_bool, deployI]
  simp only [vc25, vh_obl, vh_call, vh_room, vh_branch, vh_loop, vh_again, vh_ret, vh_any, vh_hav, pre, implies_true, true_and, forall_eq]
  refine LoopOk.intro (FJ (fun x => x.Job == id) s.Deploys 1) (FM s.Deploys 1) (FJ.start _ _ rfl) ?_
  intro xs hxs hJ
  obtain ⟨_, _, rfl, ⟨k, rfl, _⟩, _, _, rfl, ⟨i, rfl, _⟩, rfl⟩ := hxs
  obtain ⟨n, hn, hle, hf⟩ := hJ
  obtain rfl : i = n := hn
  rcases hx : s.Deploys[n]? with _ | x
  · have hge := ge_none hx
    have hd := FJ.done hx hf
    simp [updV, den, U.den, B.den, upd, condB, toL_list, toL_agg, toL_tup, toL_ptr, toL_fn, toI_int, toB_bool, AStore.toL, encL_toL, hR, hd]
    try omega
  · obtain ⟨hlt, hge⟩ := List.getElem?_eq_some_iff.1 hx
    have hw := next64 hs.Deploys.1.1 hlt
    simp [updV, den, U.den, B.den, upd, condB, toL_list, toL_agg, toL_tup, toL_ptr, toL_fn, toI_int, toB_bool, AStore.toL, encL_toL, hR, hge, hlt, hw, AEvl.toL]
    exact ⟨fun hp => (FJ.hit hx hf (by simpa using hp)).symm, fun hp => FJ.next hx hf (by simpa using hp) rfl rfl⟩
theorem con25 : Con Try.prog pre phi tb25 := con_cons c25 con24

theorem c49 : PureFn Try.prog 49 s49 (pre 49) (phi 49) := by
  refine pureFn_auto (given := []) mix con25 Try.func49 (by kernel_rfl) (v := vc49) (by kernel_rfl) ?_
  intro ds h hp
  obtain ⟨x, _, rfl, gx, _, _, rfl, ⟨_, rfl, _, _, rfl, ⟨id, rfl, _⟩, rfl⟩, rfl⟩ := h
  obtain ⟨x, rfl, hx⟩ := AJob.cases gx
  have hR : phi 49 [x.enc, .ptr [.int .i64 id]] = .bool (x.ID == id) := by simp [phi, AJob.dec_enc, I, updV, den, U.den, B.den, upd, condB, toL_list, toL_agg, toL_tup, toL_ptr, toL_fn, toI_int, toB_bool]
  simp [vc49, vh_obl, vh_call, vh_room, vh_branch, vh_loop, vh_again, vh_ret, vh_any, vh_hav, updV, den, U.den, B.den, upd, condB, toL_list, toL_agg, toL_tup, toL_ptr, toL_fn, toI_int, toB_bool, hR, AJob.toL]
theorem con49 : Con Try.prog pre phi tb49 := con_cons c49 con25

theorem catStable : PureFn Try.prog 40 satStable (pre 40) (phi 40) := by
  refine pureFn_auto (given := []) mix con49 Try.func40 (by kernel_rfl) (v := vcatStable) (by kernel_rfl) ?_
  intro ds h hp
  obtain ⟨_, _, rfl, gl, _, _, rfl, ⟨cap, rfl, hcap⟩, rfl⟩ := h
  obtain ⟨l, rfl, hl, hg⟩ := AJob.cases_l gl
  obtain ⟨_, _, rfl, ⟨_, rfl, _, _, rfl, ⟨id, rfl, _⟩, rfl⟩, rfl⟩ := hcap
  simp only [vcatStable, vh_obl, vh_call, vh_room, vh_branch, vh_loop, vh_again, vh_ret, vh_any, vh_hav, pre, implies_true, true_and, forall_eq]
  refine LoopOk.intro (FJ (fun x => x.ID == id) l 1) (FM l 1) (FJ.start _ _ rfl) ?_
  intro xs hxs hJ
  obtain ⟨_, _, rfl, ⟨k, rfl, _⟩, _, _, rfl, ⟨i, rfl, _⟩, rfl⟩ := hxs
  obtain ⟨n, hn, hle, hf⟩ := hJ
  obtain rfl : i = n := hn
  have hR : phi 40 [encL AJob.enc l, .fn 49 [.ptr [.int .i64 id]]] = .int .i64 (findF (fun x => x.ID == id) l 0) := by simp [phi, AJob.decl, fnId, I, updV, den, U.den, B.den, upd, condB, toL_list, toL_agg, toL_tup, toL_ptr, toL_fn, toI_int, toB_bool]
  have hC : ∀ x : AJob, phi 49 [x.enc, .ptr [.int .i64 id]] = .bool (x.ID == id) := by intro x; simp [phi, AJob.dec_enc, I, updV, den, U.den, B.den, upd, condB, toL_list, toL_agg, toL_tup, toL_ptr, toL_fn, toI_int, toB_bool]
  rcases hx : l[n]? with _ | x
  · have hge := ge_none hx
    have hd := FJ.done hx hf
    simp [updV, den, U.den, B.den, upd, condB, toL_list, toL_agg, toL_tup, toL_ptr, toL_fn, toI_int, toB_bool, encL_toL, hR, hd]
    try omega
  · obtain ⟨hlt, hge⟩ := List.getElem?_eq_some_iff.1 hx
    have hw := next64 hl.1 hlt
    simp [updV, den, U.den, B.den, upd, condB, toL_list, toL_agg, toL_tup, toL_ptr, toL_fn, toI_int, toB_bool, encL_toL, hR, hge, hlt, hC, hw]
    exact ⟨fun hp => (FJ.hit hx hf (by simpa using hp)).symm, fun hp => FJ.next hx hf (by simpa using hp) rfl rfl⟩
theorem conatStable : Con Try.prog pre phi tbatStable := con_cons catStable con49

theorem c26 : PureFn Try.prog 26 s26 (pre 26) (phi 26) := by
  refine pureFn_auto (given := []) mix conatStable Try.func26 (by kernel_rfl) (v := vc26) (by kernel_rfl) ?_
  intro ds h hp
  obtain ⟨x, _, rfl, gx, _, _, rfl, ⟨id, rfl, _⟩, rfl⟩ := h
  obtain ⟨s, rfl, hs⟩ := AStore.cases gx
  have hR : phi 26 [s.enc, .int .i64 id] = .int .i64 (findF (fun x => x.ID == id) s.Stable 0) := by simp [phi, AStore.dec_enc, updV, den, U.den, B.den, upd, condB, toL_list, toL_agg, toL_tup, toL_ptr, toL_fn, toI_int, toB_bool, stableI]
  have hC : phi 40 [encL AJob.enc s.Stable, .fn 49 [.ptr [.int .i64 id]]] = .int .i64 (findF (fun x => x.ID == id) s.Stable 0) := by simp [phi, AJob.decl, fnId, I, updV, den, U.den, B.den, upd, condB, toL_list, toL_agg, toL_tup, toL_ptr, toL_fn, toI_int, toB_bool]
  simp [vc26, vh_obl, vh_call, vh_room, vh_branch, vh_loop, vh_again, vh_ret, vh_any, vh_hav, pre, updV, den, U.den, B.den, upd, condB, toL_list, toL_agg, toL_tup, toL_ptr, toL_fn, toI_int, toB_bool, AStore.toL, hR, hC]
theorem con26 : Con Try.prog pre phi tb26 := con_cons c26 conatStable

theorem c27 : PureFn Try.prog 27 s27 (pre 27) (phi 27) := by
  refine pureFn_auto (given := []) mix con26 Try.func27 (by kernel_rfl) (v := vc27) (by kernel_rfl) ?_
  intro ds h hp
  obtain ⟨x, _, rfl, gx, _, _, rfl, ⟨id, rfl, _⟩, rfl⟩ := h
  obtain ⟨s, rfl, hs⟩ := AStore.cases gx
  have hR : phi 27 [s.enc, .int .i64 id] = .int .i64 (findF (fun x => x.ID == id) s.Stable 0) := by simp [phi, AStore.dec_enc, updV, den, U.den, B.den, upd, condB, toL_list, toL_agg, toL_tup, toL_ptr, toL_fn, toI_int, toB_bool, stableI]
  simp only [vc27, vh_obl, vh_call, vh_room, vh_branch, vh_loop, vh_again, vh_ret, vh_any, vh_hav, pre, implies_true, true_and, forall_eq]
  refine LoopOk.intro (FJ (fun x => x.ID == id) s.Stable 1) (FM s.Stable 1) (FJ.start _ _ rfl) ?_
  intro xs hxs hJ
  obtain ⟨_, _, rfl, ⟨k, rfl, _⟩, _, _, rfl, ⟨i, rfl, _⟩, rfl⟩ := hxs
  obtain ⟨n, hn, hle, hf⟩ := hJ
  obtain rfl : i = n := hn
  rcases hx : s.Stable[n]? with _ | x
  · have hge := ge_none hx
    have hd := FJ.done hx hf
    simp [updV, den, U.den, B.den, upd, condB, toL_list, toL_agg, toL_tup, toL_ptr, toL_fn, toI_int, toB_bool, AStore.toL, encL_toL, hR, hd]
    try omega
  · obtain ⟨hlt, hge⟩ := List.getElem?_eq_some_iff.1 hx
    have hw := next64 hs.Stable.1.1 hlt
    simp [updV, den, U.den, B.den, upd, condB, toL_list, toL_agg, toL_tup, toL_ptr, toL_fn, toI_int, toB_bool, AStore.toL, encL_toL, hR, hge, hlt, hw, AJob.toL]
    exact ⟨fun hp => (FJ.hit hx hf (by simpa using hp)).symm, fun hp => FJ.next hx hf (by simpa using hp) rfl rfl⟩
theorem con27 : Con Try.prog pre phi tb27 := con_cons c27 con26

theorem c10 : PureFn Try.prog 10 s10 (pre 10) (phi 10) := by
  refine pureFn_auto (given := []) mix con27 Try.func10 (by kernel_rfl) (v := vc10) (by kernel_rfl) ?_
  intro ds h hp
  obtain ⟨x, _, rfl, gx, _, _, rfl, ⟨node, rfl, _⟩, rfl⟩ := h
  obtain ⟨s, rfl, hs⟩ := AStore.cases gx
  have hR : phi 10 [s.enc, .int .i64 node] = (useF node s.Allocs ⟨0, 0⟩).enc := by simp [phi, AStore.dec_enc, updV, den, U.den, B.den, upd, condB, toL_list, toL_agg, toL_tup, toL_ptr, toL_fn, toI_int, toB_bool, used]
  have hadd : ∀ (u v a b : Int), phi 34 [.agg [.int .i64 u, .int .i64 v], .agg [.int .i64 a, .int .i64 b]] = addD ⟨u, v⟩ ⟨a, b⟩ := fun _ _ _ _ => rfl
  simp only [vc10, vh_obl, vh_call, vh_room, vh_branch, vh_loop, vh_again, vh_ret, vh_any, vh_hav, pre, implies_true, true_and, forall_eq]
  refine LoopOk.intro (UJ node s.Allocs) (FM s.Allocs 0) ⟨0, rfl, Nat.zero_le _, rfl⟩ ?_
  intro xs hxs hJ
  obtain ⟨_, _, rfl, ⟨i, rfl, _⟩, _, _, rfl, ⟨u, rfl, _⟩, _, _, rfl, ⟨v, rfl, _⟩, _, _, rfl, ⟨p, rfl, _⟩, _, _, rfl, ⟨q, rfl, _⟩, rfl⟩ := hxs
  obtain ⟨n, hn, hle, hf⟩ := hJ
  obtain rfl : i = n := hn
  replace hf : useF node (s.Allocs.drop n) ⟨u, v⟩ = useF node s.Allocs ⟨0, 0⟩ := hf
  rcases hx : s.Allocs[n]? with _ | x
  · have hge := ge_none hx
    rw [drop_none hx, useF] at hf
    simp [updV, den, U.den, B.den, upd, condB, toL_list, toL_agg, toL_tup, toL_ptr, toL_fn, toI_int, toB_bool, AStore.toL, encL_toL, hR, ← hf, ARes.enc]
    try omega
  · obtain ⟨hlt, hge⟩ := List.getElem?_eq_some_iff.1 hx
    have hw := next64 hs.Allocs.1.1 hlt
    rw [drop_some hx, useF] at hf
    have nx : ∀ (r r' : List D) (u' v' : Int), useF node (s.Allocs.drop (n + 1)) ⟨u', v'⟩ = useF node s.Allocs ⟨0, 0⟩ →
        UJ node s.Allocs (.int .i64 ((n : Int) + 1) :: .int .i64 u' :: .int .i64 v' :: r) ∧ FM s.Allocs 0 (.int .i64 ((n : Int) + 1) :: .int .i64 u' :: .int .i64 v' :: r) < FM s.Allocs 0 (.int .i64 n :: .int .i64 u :: .int .i64 v :: r') := by
      intro r r' u' v' h
      refine ⟨⟨n + 1, rfl, hlt, h⟩, ?_⟩
      simp only [FM, I0]
      omega
    have hov : phi 28 [x.enc] = .bool (over x) := rfl
    rw [AAlc.enc] at hov
    simp [updV, den, U.den, B.den, upd, condB, toL_list, toL_agg, toL_tup, toL_ptr, toL_fn, toI_int, toB_bool, AStore.toL, encL_toL, hR, hge, hlt, AAlc.toL, hadd, addD, hw, hov, over]
    refine ⟨fun hc => ?_, fun h1 h2 => ?_⟩
    · rw [if_pos (by simpa [over] using hc)] at hf
      exact nx _ _ _ _ hf
    · rw [if_neg (by simp [over]; omega)] at hf
      refine ⟨fun h => ?_, fun h => ?_⟩
      · rw [if_neg (by simp [h])] at hf
        rw [← hf]; rfl
      · rw [if_pos h] at hf
        simpa [ARes.toL] using nx _ _ _ _ hf
theorem con10 : Con Try.prog pre phi tb10 := con_cons c10 con27

def UJ3 (node : Int) (l : List AAlc) (xs : List D) : Prop := ∃ n : Nat, I (.list xs) 0 = n ∧ n ≤ l.length ∧ useF node (l.drop n) ⟨I (.list xs) 3, I (.list xs) 4⟩ = useF node l ⟨0, 0⟩
theorem c11 : PureFn Try.prog 11 s11 (pre 11) (phi 11) := by
  refine pureFn_auto (given := []) mix con10 Try.func11 (by kernel_rfl) (v := vc11) (by kernel_rfl) ?_
  intro ds h hp
  obtain ⟨x, _, rfl, gx, _, _, rfl, ⟨node, rfl, _⟩, rfl⟩ := h
  obtain ⟨s, rfl, hs⟩ := AStore.cases gx
  have hR : phi 11 [s.enc, .int .i64 node] = (useF node s.Allocs ⟨0, 0⟩).enc := by simp [phi, AStore.dec_enc, updV, den, U.den, B.den, upd, condB, toL_list, toL_agg, toL_tup, toL_ptr, toL_fn, toI_int, toB_bool, used]
  have hadd : ∀ (u v a b : Int), phi 35 [.agg [.int .i64 u, .int .i64 v], .agg [.int .i64 a, .int .i64 b]] = addD ⟨u, v⟩ ⟨a, b⟩ := fun _ _ _ _ => rfl
  simp only [vc11, vh_obl, vh_call, vh_room, vh_branch, vh_loop, vh_again, vh_ret, vh_any, vh_hav, pre, implies_true, true_and, forall_eq]
  refine LoopOk.intro (UJ3 node s.Allocs) (FM s.Allocs 0) ⟨0, rfl, Nat.zero_le _, rfl⟩ ?_
  intro xs hxs hJ
  obtain ⟨_, _, rfl, ⟨i, rfl, _⟩, _, _, rfl, ⟨p, rfl, _⟩, _, _, rfl, ⟨q, rfl, _⟩, _, _, rfl, ⟨u, rfl, _⟩, _, _, rfl, ⟨v, rfl, _⟩, rfl⟩ := hxs
  obtain ⟨n, hn, hle, hf⟩ := hJ
  obtain rfl : i = n := hn
  replace hf : useF node (s.Allocs.drop n) ⟨u, v⟩ = useF node s.Allocs ⟨0, 0⟩ := hf
  rcases hx : s.Allocs[n]? with _ | x
  · have hge := ge_none hx
    rw [drop_none hx, useF] at hf
    simp [updV, den, U.den, B.den, upd, condB, toL_list, toL_agg, toL_tup, toL_ptr, toL_fn, toI_int, toB_bool, AStore.toL, encL_toL, hR, ← hf, ARes.enc]
    try omega
  · obtain ⟨hlt, hge⟩ := List.getElem?_eq_some_iff.1 hx
    have hw := next64 hs.Allocs.1.1 hlt
    rw [drop_some hx, useF] at hf
    have nx : ∀ (r r' : List D) (u' v' : Int), useF node (s.Allocs.drop (n + 1)) ⟨u', v'⟩ = useF node s.Allocs ⟨0, 0⟩ →
        UJ3 node s.Allocs (.int .i64 ((n : Int) + 1) :: .int .i64 p :: .int .i64 q :: .int .i64 u' :: .int .i64 v' :: r) ∧ FM s.Allocs 0 (.int .i64 ((n : Int) + 1) :: .int .i64 p :: .int .i64 q :: .int .i64 u' :: .int .i64 v' :: r) < FM s.Allocs 0 (.int .i64 n :: .int .i64 p :: .int .i64 q :: .int .i64 u :: .int .i64 v :: r') := by
      intro r r' u' v' h
      refine ⟨⟨n + 1, rfl, hlt, h⟩, ?_⟩
      simp only [FM, I0]
      omega
  
    simp [updV, den, U.den, B.den, upd, condB, toL_list, toL_agg, toL_tup, toL_ptr, toL_fn, toI_int, toB_bool, AStore.toL, encL_toL, hR, hge, hlt, AAlc.toL, hadd, addD, hw]
    refine ⟨fun hc => ?_, fun h1 h2 => ?_⟩
    · rw [if_pos (by simpa [over] using hc)] at hf
      exact nx _ _ _ _ hf
    · rw [if_neg (by simp [over]; omega)] at hf
      refine ⟨fun h => ?_, fun h => ?_⟩
      · rw [if_neg (by simp [h])] at hf
        rw [← hf]; rfl
      · rw [if_pos h] at hf
        simpa [ARes.toL] using nx _ _ _ _ hf
theorem con11 : Con Try.prog pre phi tb11 := con_cons c11 con10

end Go.Proofs.Ytjpkeliliahjoaa
