/-
  What each function of this seat computes, and that it keeps to it (A).
-/
import Derived.Test.YtkmgkdaedjdeeaaF
set_option linter.unusedSimpArgs false
set_option linter.unusedVariables false
namespace Go.Proofs.Ytkmgkdaedjdeeaa
open Go Go.Eng Go.Proofs

theorem c28 : PureFn Try.prog 28 s28 (pre 28) (phi 28) := by
  refine pureFn_auto (given := []) mix (con_nil (Φ := phi) (Pre := pre)) Try.func28 (by kernel_rfl) (v := vc28) (by kernel_rfl) ?_
  intro ds h hp
  obtain ⟨a, _, rfl, ⟨a, rfl, ha⟩, b, _, rfl, ⟨b, rfl, hb⟩, c, _, rfl, ⟨c, rfl, hc⟩, rfl⟩ := h
  simp [vc28, vh_obl, vh_call, vh_room, vh_branch, vh_loop, vh_again, vh_ret, den, B.den, phi, within, toI_int, toB_bool]
theorem con28 : Con Try.prog pre phi tb28 := con_cons c28 con_nil

theorem c27 : PureFn Try.prog 27 s27 (pre 27) (phi 27) := by
  refine pureFn_auto (given := []) mix con28 Try.func27 (by kernel_rfl) (v := vc27) (by kernel_rfl) ?_
  intro ds h hp
  obtain ⟨a, _, rfl, ⟨a, rfl, ha⟩, _, _, rfl, ⟨_, rfl, b, _, rfl, ⟨b, rfl, hb⟩, rfl⟩, rfl⟩ := h
  simp [vc27, vh_obl, vh_call, vh_room, vh_branch, vh_loop, vh_again, vh_ret, pre, updV, den, U.den, B.den, upd, condB, toL_list, toL_agg, toL_tup, toL_ptr, toL_fn, toI_int, toB_bool, phi, within, I]
theorem con27 : Con Try.prog pre phi tb27 := con_cons c27 con28

theorem c25 : PureFn Try.prog 25 s25 (pre 25) (phi 25) := by
  refine pureFn_auto (given := []) mix con27 Try.func25 (by kernel_rfl) (v := vc25) (by kernel_rfl) ?_
  intro ds h hp
  obtain ⟨_, _, rfl, ⟨_, rfl, a, _, rfl, ⟨a, rfl, ha⟩, b, _, rfl, ⟨b, rfl, hb⟩, rfl⟩, c, _, rfl, ⟨c, rfl, hc⟩, rfl⟩ := h
  simp [vc25, vh_obl, vh_call, vh_room, vh_branch, vh_loop, vh_again, vh_ret, updV, den, U.den, B.den, upd, condB, toL_list, toL_agg, toL_tup, toL_ptr, toL_fn, toI_int, toB_bool, phi, pre, resOk, within, I]
theorem con25 : Con Try.prog pre phi tb25 := con_cons c25 con27

theorem c22 : PureFn Try.prog 22 s22 (pre 22) (phi 22) := by
  refine pureFn_auto (given := []) mix con25 Try.func22 (by kernel_rfl) (v := vc22) (by kernel_rfl) ?_
  intro ds h hp
  obtain ⟨x, _, rfl, gx, y, _, rfl, gy, rfl⟩ := h
  obtain ⟨x, rfl, hx⟩ := ARes.cases gx
  obtain ⟨y, rfl, hy⟩ := ARes.cases gy
  have h1 := in64_iff.1 hx.CPU; have h2 := in64_iff.1 hx.Mem; have h3 := in64_iff.1 hy.CPU; have h4 := in64_iff.1 hy.Mem
  simp only [vc22, vh_obl, vh_call, vh_room, vh_branch, vh_loop, vh_again, vh_ret, pre, implies_true, true_and, forall_eq]
  have hr : ∀ (u v m : Int), phi 25 [.agg [.int .i64 u, .int .i64 v], .int .i64 m] = .bool (resOk u v m) := fun _ _ _ => rfl
  have hR : phi 22 [x.enc, y.enc] = addD x y := rfl
  simp [updV, den, U.den, B.den, upd, condB, toL_list, toL_agg, toL_tup, toL_ptr, toL_fn, toI_int, toB_bool, hr, hR, ARes.toL, addD, addR, sumOk]
  refine ⟨fun h => by rcases h with h | h <;> simp [M] at h ⊢ <;> simp [h, ARes.enc], fun h1 h2 => ?_⟩
  have b1 := resOk_le h1
  have b2 := resOk_le h2
  rw [wrap64 (by omega) (by omega), wrap64 (by omega) (by omega)]
  exact ⟨fun h => by simp [M, h, ARes.enc], fun h => by simp [M, h1, h2, h, ARes.enc]⟩
theorem con22 : Con Try.prog pre phi tb22 := con_cons c22 con25

theorem c26 : PureFn Try.prog 26 s26 (pre 26) (phi 26) := by
  refine pureFn_auto (given := []) mix con22 Try.func26 (by kernel_rfl) (v := vc26) (by kernel_rfl) ?_
  intro ds h hp
  obtain ⟨_, _, rfl, ⟨a, rfl, ha⟩, _, _, rfl, ⟨b, rfl, hb⟩, rfl⟩ := h
  rw [inK64] at ha hb
  simp only [vc26, vh_obl, vh_call, vh_room, vh_branch, vh_loop, vh_again, vh_ret, pre, implies_true, true_and, forall_eq]
  simp only [updV, den, U.den, B.den, upd, condB, toL_list, toL_agg, toL_tup, toL_ptr, toL_fn, toI_int, toB_bool, phi, sum1, M, within, List.getD_cons_zero, List.getD_cons_succ, Bool.or_eq_true, Bool.or_eq_false_iff, decide_eq_true_eq, decide_eq_false_iff_not, Bool.and_eq_true]
  constructor
  · intro h
    rw [if_neg]
    intro h2
    rcases h with h | h
    · omega
    · rw [wrap64 (by omega) (by omega)] at h; omega
  · rintro ⟨h, h2⟩
    rw [wrap64 (by omega) (by omega)] at h2 ⊢
    rw [if_pos (by omega)]
theorem con26 : Con Try.prog pre phi tb26 := con_cons c26 con22

theorem c23 : PureFn Try.prog 23 s23 (pre 23) (phi 23) := by
  refine pureFn_auto (given := []) mix con26 Try.func23 (by kernel_rfl) (v := vc23) (by kernel_rfl) ?_
  intro ds h hp
  obtain ⟨x, _, rfl, gx, y, _, rfl, gy, rfl⟩ := h
  obtain ⟨x, rfl, hx⟩ := ARes.cases gx
  obtain ⟨y, rfl, hy⟩ := ARes.cases gy
  simp only [vc23, vh_obl, vh_call, vh_room, vh_branch, vh_loop, vh_again, vh_ret, pre, implies_true, true_and, forall_eq]
  have hr : ∀ (u v : Int), phi 26 [.int .i64 u, .int .i64 v] = sum1 u v := fun _ _ => rfl
  have hR : phi 23 [x.enc, y.enc] = addD x y := rfl
  have hs : ∀ x y : Int, sum1 x y = .tup [.int .i64 (if 0 ≤ x ∧ 0 ≤ y ∧ x + y ≤ M then x + y else 0), .bool (decide (0 ≤ x ∧ 0 ≤ y ∧ x + y ≤ M))] := by
    intro x y
    unfold sum1 within M
    by_cases h : 0 ≤ x ∧ 0 ≤ y ∧ x + y ≤ 1152921504606846976
    · rw [if_pos (by simp; omega), if_pos h]; simp [h]
    · rw [if_neg (by simp; omega), if_neg h]; simp [h]
  simp [updV, den, U.den, B.den, upd, condB, toL_list, toL_agg, toL_tup, toL_ptr, toL_fn, toI_int, toB_bool, hr, hR, hs, ARes.toL, addD, addR]
  by_cases h : sumOk x y = true
  · have h' := sumOk_iff.1 h
    simp [h, h', ARes.enc]
  · have h' : ¬ ((0 ≤ x.CPU ∧ 0 ≤ y.CPU ∧ x.CPU + y.CPU ≤ M) ∧ (0 ≤ x.Mem ∧ 0 ≤ y.Mem ∧ x.Mem + y.Mem ≤ M)) := fun hh => h (sumOk_iff.2 (by omega))
    have h2 : sumOk x y = false := by simpa using h
    simp [h2, ARes.enc]
    omega
theorem con23 : Con Try.prog pre phi tb23 := con_cons c23 con26

theorem c15 : PureFn Try.prog 15 s15 (pre 15) (phi 15) := by
  refine pureFn_auto (given := []) mix con23 Try.func15 (by kernel_rfl) (v := vc15) (by kernel_rfl) ?_
  intro ds h hp
  obtain ⟨x, _, rfl, gx, y, _, rfl, gy, z, _, rfl, gz, rfl⟩ := h
  obtain ⟨x, rfl, hx⟩ := ARes.cases gx
  obtain ⟨y, rfl, hy⟩ := ARes.cases gy
  obtain ⟨z, rfl, hz⟩ := ARes.cases gz
  have hadd : ∀ (u v a b : Int), phi 22 [.agg [.int .i64 u, .int .i64 v], .agg [.int .i64 a, .int .i64 b]] = addD ⟨u, v⟩ ⟨a, b⟩ := fun _ _ _ _ => rfl
  have hadd2 : phi 22 [x.enc, y.enc] = addD x y := rfl
  have hR : phi 15 [x.enc, y.enc, z.enc] = .bool (fitsR x y z) := rfl
  simp [vc15, vh_obl, vh_call, vh_room, vh_branch, vh_loop, vh_again, vh_ret, pre, updV, den, U.den, B.den, upd, condB, toL_list, toL_agg, toL_tup, toL_ptr, toL_fn, toI_int, toB_bool, hR, hadd, hadd2, ARes.toL, addD, fitsR]
theorem con15 : Con Try.prog pre phi tb15 := con_cons c15 con23

theorem c24 : PureFn Try.prog 24 s24 (pre 24) (phi 24) := by
  refine pureFn_auto (given := []) mix con15 Try.func24 (by kernel_rfl) (v := vc24) (by kernel_rfl) ?_
  intro ds h hp
  obtain ⟨x, _, rfl, gx, rfl⟩ := h
  obtain ⟨x, rfl, hx⟩ := AAlc.cases gx
  have hR : phi 24 [x.enc] = .bool (over x) := rfl
  simp [vc24, vh_obl, vh_call, vh_room, vh_branch, vh_loop, vh_again, vh_ret, updV, den, U.den, B.den, upd, condB, toL_list, toL_agg, toL_tup, toL_ptr, toL_fn, toI_int, toB_bool, hR, AAlc.toL, over]
theorem con24 : Con Try.prog pre phi tb24 := con_cons c24 con15

theorem c21 : PureFn Try.prog 21 s21 (pre 21) (phi 21) := by
  refine pureFn_auto (given := [(3, ⟨[], [(5, []), (4, [])], []⟩)]) mix con24 Try.func21 (by kernel_rfl) (v := vc21) (by kernel_rfl) ?_
  intro ds h hp
  obtain ⟨x, _, rfl, gx, _, _, rfl, ⟨node, rfl, _⟩, rfl⟩ := h
  obtain ⟨s, rfl, hs⟩ := AStore.cases gx
  have hR : phi 21 [s.enc, .int .i64 node] = (useF node s.Allocs ⟨0, 0⟩).enc := by simp [phi, AStore.dec_enc, updV, den, U.den, B.den, upd, condB, toL_list, toL_agg, toL_tup, toL_ptr, toL_fn, toI_int, toB_bool, used]
  have hadd : ∀ (u v a b : Int), phi 22 [.agg [.int .i64 u, .int .i64 v], .agg [.int .i64 a, .int .i64 b]] = addD ⟨u, v⟩ ⟨a, b⟩ := fun _ _ _ _ => rfl
  simp only [vc21, vh_obl, vh_call, vh_room, vh_branch, vh_loop, vh_again, vh_ret, pre, implies_true, true_and, forall_eq]
  refine LoopOk.intro (UJ node s.Allocs) (FM s.Allocs 0) ⟨0, rfl, Nat.zero_le _, rfl⟩ ?_
  intro xs hxs hJ
  obtain ⟨_, _, rfl, ⟨i, rfl, _⟩, _, _, rfl, ⟨u, rfl, _⟩, _, _, rfl, ⟨v, rfl, _⟩, _, _, rfl, ⟨p, rfl, _⟩, _, _, rfl, ⟨q, rfl, _⟩, rfl⟩ := hxs
  obtain ⟨n, hn, hle, hf⟩ := hJ
  obtain rfl : i = n := hn
  replace hf : useF node (s.Allocs.drop n) ⟨u, v⟩ = useF node s.Allocs ⟨0, 0⟩ := hf
  rcases hx : s.Allocs[n]? with _ | x
  · have hge := ge_none hx
    rw [drop_none hx, useF] at hf
    simp [updV, den, U.den, B.den, upd, condB, toL_list, toL_agg, toL_tup, toL_ptr, toL_fn, toI_int, toB_bool, AStore.toL, encL_toL, hR, ← hf, ARes.enc]
    try omega
  · obtain ⟨hlt, hge⟩ := List.getElem?_eq_some_iff.1 hx
    have hw := next64 hs.Allocs.1.1 hlt
    rw [drop_some hx, useF] at hf
    have nx : ∀ (r r' : List D) (u' v' : Int), useF node (s.Allocs.drop (n + 1)) ⟨u', v'⟩ = useF node s.Allocs ⟨0, 0⟩ →
        UJ node s.Allocs (.int .i64 ((n : Int) + 1) :: .int .i64 u' :: .int .i64 v' :: r) ∧ FM s.Allocs 0 (.int .i64 ((n : Int) + 1) :: .int .i64 u' :: .int .i64 v' :: r) < FM s.Allocs 0 (.int .i64 n :: .int .i64 u :: .int .i64 v :: r') := by
      intro r r' u' v' h
      refine ⟨⟨n + 1, rfl, hlt, h⟩, ?_⟩
      simp only [FM, I0]
      omega
    have hov : phi 24 [x.enc] = .bool (over x) := rfl
    rw [AAlc.enc] at hov
    simp [updV, den, U.den, B.den, upd, condB, toL_list, toL_agg, toL_tup, toL_ptr, toL_fn, toI_int, toB_bool, AStore.toL, encL_toL, hR, hge, hlt, AAlc.toL, hadd, addD, hw, hov, over]
    refine ⟨fun hc => ?_, fun h1 h2 => ?_⟩
    · rw [if_pos (by simpa [over] using hc)] at hf
      exact nx _ _ _ _ hf
    · rw [if_neg (by simp [over]; omega)] at hf
      refine ⟨fun h => ?_, fun h => ?_⟩
      · rw [if_neg (by simp [h])] at hf
        rw [← hf]; rfl
      · rw [if_pos h] at hf
        simpa [ARes.toL] using nx _ _ _ _ hf
theorem con21 : Con Try.prog pre phi tb21 := con_cons c21 con24

theorem c18 : PureFn Try.prog 18 s18 (pre 18) (phi 18) := by
  refine pureFn_auto (given := [(3, ⟨[], [(5, [])], []⟩)]) mix con21 Try.func18 (by kernel_rfl) (v := vc18) (by kernel_rfl) ?_
  intro ds h hp
  obtain ⟨x, _, rfl, gx, _, _, rfl, ⟨node, rfl, _⟩, rfl⟩ := h
  obtain ⟨s, rfl, hs⟩ := AStore.cases gx
  have hR : phi 18 [s.enc, .int .i64 node] = (useF node s.Allocs ⟨0, 0⟩).enc := by simp [phi, AStore.dec_enc, updV, den, U.den, B.den, upd, condB, toL_list, toL_agg, toL_tup, toL_ptr, toL_fn, toI_int, toB_bool, used]
  have hadd : ∀ (u v a b : Int), phi 23 [.agg [.int .i64 u, .int .i64 v], .agg [.int .i64 a, .int .i64 b]] = addD ⟨u, v⟩ ⟨a, b⟩ := fun _ _ _ _ => rfl
  simp only [vc18, vh_obl, vh_call, vh_room, vh_branch, vh_loop, vh_again, vh_ret, pre, implies_true, true_and, forall_eq]
  refine LoopOk.intro (UJ node s.Allocs) (FM s.Allocs 0) ⟨0, rfl, Nat.zero_le _, rfl⟩ ?_
  intro xs hxs hJ
  obtain ⟨_, _, rfl, ⟨i, rfl, _⟩, _, _, rfl, ⟨u, rfl, _⟩, _, _, rfl, ⟨v, rfl, _⟩, rfl⟩ := hxs
  obtain ⟨n, hn, hle, hf⟩ := hJ
  obtain rfl : i = n := hn
  replace hf : useF node (s.Allocs.drop n) ⟨u, v⟩ = useF node s.Allocs ⟨0, 0⟩ := hf
  rcases hx : s.Allocs[n]? with _ | x
  · have hge := ge_none hx
    rw [drop_none hx, useF] at hf
    simp [updV, den, U.den, B.den, upd, condB, toL_list, toL_agg, toL_tup, toL_ptr, toL_fn, toI_int, toB_bool, AStore.toL, encL_toL, hR, ← hf, ARes.enc]
    try omega
  · obtain ⟨hlt, hge⟩ := List.getElem?_eq_some_iff.1 hx
    have hw := next64 hs.Allocs.1.1 hlt
    rw [drop_some hx, useF] at hf
    have nx : ∀ (r r' : List D) (u' v' : Int), useF node (s.Allocs.drop (n + 1)) ⟨u', v'⟩ = useF node s.Allocs ⟨0, 0⟩ →
        UJ node s.Allocs (.int .i64 ((n : Int) + 1) :: .int .i64 u' :: .int .i64 v' :: r) ∧ FM s.Allocs 0 (.int .i64 ((n : Int) + 1) :: .int .i64 u' :: .int .i64 v' :: r) < FM s.Allocs 0 (.int .i64 n :: .int .i64 u :: .int .i64 v :: r') := by
      intro r r' u' v' h
      refine ⟨⟨n + 1, rfl, hlt, h⟩, ?_⟩
      simp only [FM, I0]
      omega
  
    simp [updV, den, U.den, B.den, upd, condB, toL_list, toL_agg, toL_tup, toL_ptr, toL_fn, toI_int, toB_bool, AStore.toL, encL_toL, hR, hge, hlt, AAlc.toL, hadd, addD, hw]
    refine ⟨fun hc => ?_, fun h1 h2 => ?_⟩
    · rw [if_pos (by simpa [over] using hc)] at hf
      exact nx _ _ _ _ hf
    · rw [if_neg (by simp [over]; omega)] at hf
      refine ⟨fun h => ?_, fun h => ?_⟩
      · rw [if_neg (by simp [h])] at hf
        rw [← hf]; rfl
      · rw [if_pos h] at hf
        simpa [ARes.toL] using nx _ _ _ _ hf
theorem con18 : Con Try.prog pre phi tb18 := con_cons c18 con21

theorem c20 : PureFn Try.prog 20 s20 (pre 20) (phi 20) := by
  refine pureFn_auto (given := []) mix con18 Try.func20 (by kernel_rfl) (v := vc20) (by kernel_rfl) ?_
  intro ds h hp
  obtain ⟨x, _, rfl, gx, _, _, rfl, ⟨_, rfl, _, _, rfl, ⟨id, rfl, _⟩, rfl⟩, rfl⟩ := h
  obtain ⟨x, rfl, hx⟩ := ANode.cases gx
  have hR : phi 20 [x.enc, .ptr [.int .i64 id]] = .bool (x.ID == id) := by simp [phi, ANode.dec_enc, I, updV, den, U.den, B.den, upd, condB, toL_list, toL_agg, toL_tup, toL_ptr, toL_fn, toI_int, toB_bool]
  simp [vc20, vh_obl, vh_call, vh_room, vh_branch, vh_loop, vh_again, vh_ret, updV, den, U.den, B.den, upd, condB, toL_list, toL_agg, toL_tup, toL_ptr, toL_fn, toI_int, toB_bool, hR, ANode.toL]
theorem con20 : Con Try.prog pre phi tb20 := con_cons c20 con18

theorem c19 : PureFn Try.prog 19 s19 (pre 19) (phi 19) := by
  refine pureFn_auto (given := []) mix con20 Try.func19 (by kernel_rfl) (v := vc19) (by kernel_rfl) ?_
  intro ds h hp
  obtain ⟨_, _, rfl, gl, _, _, rfl, ⟨cap, rfl, hcap⟩, rfl⟩ := h
  obtain ⟨l, rfl, hl, hg⟩ := ANode.cases_l gl
  obtain ⟨_, _, rfl, ⟨_, rfl, _, _, rfl, ⟨id, rfl, _⟩, rfl⟩, rfl⟩ := hcap
  simp only [vc19, vh_obl, vh_call, vh_room, vh_branch, vh_loop, vh_again, vh_ret, pre, implies_true, true_and, forall_eq]
  refine LoopOk.intro (FJ (fun x => x.ID == id) l 1) (FM l 1) (FJ.start _ _ rfl) ?_
  intro xs hxs hJ
  obtain ⟨_, _, rfl, ⟨k, rfl, _⟩, _, _, rfl, ⟨i, rfl, _⟩, rfl⟩ := hxs
  obtain ⟨n, hn, hle, hf⟩ := hJ
  obtain rfl : i = n := hn
  have hR : phi 19 [encL ANode.enc l, .fn 20 [.ptr [.int .i64 id]]] = .int .i64 (findF (fun x => x.ID == id) l 0) := by simp [phi, ANode.decl, fnId, I, updV, den, U.den, B.den, upd, condB, toL_list, toL_agg, toL_tup, toL_ptr, toL_fn, toI_int, toB_bool]
  have hC : ∀ x : ANode, phi 20 [x.enc, .ptr [.int .i64 id]] = .bool (x.ID == id) := by intro x; simp [phi, ANode.dec_enc, I, updV, den, U.den, B.den, upd, condB, toL_list, toL_agg, toL_tup, toL_ptr, toL_fn, toI_int, toB_bool]
  rcases hx : l[n]? with _ | x
  · have hge := ge_none hx
    have hd := FJ.done hx hf
    simp [updV, den, U.den, B.den, upd, condB, toL_list, toL_agg, toL_tup, toL_ptr, toL_fn, toI_int, toB_bool, encL_toL, hR, hd]
    try omega
  · obtain ⟨hlt, hge⟩ := List.getElem?_eq_some_iff.1 hx
    have hw := next64 hl.1 hlt
    simp [updV, den, U.den, B.den, upd, condB, toL_list, toL_agg, toL_tup, toL_ptr, toL_fn, toI_int, toB_bool, encL_toL, hR, hge, hlt, hC, hw]
    exact ⟨fun hp => (FJ.hit hx hf (by simpa using hp)).symm, fun hp => FJ.next hx hf (by simpa using hp) rfl rfl⟩
theorem con19 : Con Try.prog pre phi tb19 := con_cons c19 con20

theorem c13 : PureFn Try.prog 13 s13 (pre 13) (phi 13) := by
  refine pureFn_auto (given := []) mix con19 Try.func13 (by kernel_rfl) (v := vc13) (by kernel_rfl) ?_
  intro ds h hp
  obtain ⟨x, _, rfl, gx, _, _, rfl, ⟨id, rfl, _⟩, rfl⟩ := h
  obtain ⟨s, rfl, hs⟩ := AStore.cases gx
  have hR : phi 13 [s.enc, .int .i64 id] = .int .i64 (findF (fun x => x.ID == id) s.Nodes 0) := by simp [phi, AStore.dec_enc, updV, den, U.den, B.den, upd, condB, toL_list, toL_agg, toL_tup, toL_ptr, toL_fn, toI_int, toB_bool, nodeI]
  have hC : phi 19 [encL ANode.enc s.Nodes, .fn 20 [.ptr [.int .i64 id]]] = .int .i64 (findF (fun x => x.ID == id) s.Nodes 0) := by simp [phi, ANode.decl, fnId, I, updV, den, U.den, B.den, upd, condB, toL_list, toL_agg, toL_tup, toL_ptr, toL_fn, toI_int, toB_bool]
  simp [vc13, vh_obl, vh_call, vh_room, vh_branch, vh_loop, vh_again, vh_ret, pre, updV, den, U.den, B.den, upd, condB, toL_list, toL_agg, toL_tup, toL_ptr, toL_fn, toI_int, toB_bool, AStore.toL, hR, hC]
theorem con13 : Con Try.prog pre phi tb13 := con_cons c13 con19

theorem c17 : PureFn Try.prog 17 s17 (pre 17) (phi 17) := by
  refine pureFn_auto (given := []) mix con13 Try.func17 (by kernel_rfl) (v := vc17) (by kernel_rfl) ?_
  intro ds h hp
  obtain ⟨x, _, rfl, gx, _, _, rfl, ⟨id, rfl, _⟩, rfl⟩ := h
  obtain ⟨s, rfl, hs⟩ := AStore.cases gx
  have hR : phi 17 [s.enc, .int .i64 id] = .int .i64 (findF (fun x => x.ID == id) s.Nodes 0) := by simp [phi, AStore.dec_enc, updV, den, U.den, B.den, upd, condB, toL_list, toL_agg, toL_tup, toL_ptr, toL_fn, toI_int, toB_bool, nodeI]
  simp only [vc17, vh_obl, vh_call, vh_room, vh_branch, vh_loop, vh_again, vh_ret, pre, implies_true, true_and, forall_eq]
  refine LoopOk.intro (FJ (fun x => x.ID == id) s.Nodes 1) (FM s.Nodes 1) (FJ.start _ _ rfl) ?_
  intro xs hxs hJ
  obtain ⟨_, _, rfl, ⟨k, rfl, _⟩, _, _, rfl, ⟨i, rfl, _⟩, rfl⟩ := hxs
  obtain ⟨n, hn, hle, hf⟩ := hJ
  obtain rfl : i = n := hn
  rcases hx : s.Nodes[n]? with _ | x
  · have hge := ge_none hx
    have hd := FJ.done hx hf
    simp [updV, den, U.den, B.den, upd, condB, toL_list, toL_agg, toL_tup, toL_ptr, toL_fn, toI_int, toB_bool, AStore.toL, encL_toL, hR, hd]
    try omega
  · obtain ⟨hlt, hge⟩ := List.getElem?_eq_some_iff.1 hx
    have hw := next64 hs.Nodes.1.1 hlt
    simp [updV, den, U.den, B.den, upd, condB, toL_list, toL_agg, toL_tup, toL_ptr, toL_fn, toI_int, toB_bool, AStore.toL, encL_toL, hR, hge, hlt, hw, ANode.toL]
    exact ⟨fun hp => (FJ.hit hx hf (by simpa using hp)).symm, fun hp => FJ.next hx hf (by simpa using hp) rfl rfl⟩
theorem con17 : Con Try.prog pre phi tb17 := con_cons c17 con13

end Go.Proofs.Ytkmgkdaedjdeeaa
