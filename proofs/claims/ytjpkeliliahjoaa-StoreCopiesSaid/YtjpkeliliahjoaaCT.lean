/-
  What each function of this seat computes, and that it keeps to it (T).
-/
import Derived.Test.YtjpkeliliahjoaaCS
set_option linter.unusedSimpArgs false
set_option linter.unusedVariables false
namespace Go.Proofs.Ytjpkeliliahjoaa
open Go Go.Eng Go.Proofs


theorem AJob.eq_iff {x y : AJob} : x = y ↔ (x.ID = y.ID ∧ x.Kind = y.Kind ∧ x.Priority = y.Priority ∧ x.Parallel = y.Parallel ∧ x.Version = y.Version ∧ x.Stopped = y.Stopped ∧ x.Groups = y.Groups) := by
  obtain ⟨_, _, _, _, _, _, _⟩ := x; obtain ⟨_, _, _, _, _, _, _⟩ := y
  simp only [AJob.mk.injEq]
  exact ⟨fun ⟨h1, h2, h3, h4, h5, h6, h7⟩ => ⟨h1, h2, h3, h4, h6, h7, h5⟩, fun ⟨h1, h2, h3, h4, h6, h7, h5⟩ => ⟨h1, h2, h3, h4, h5, h6, h7⟩⟩
theorem ASeen.eq_iff {x y : ASeen} : x = y ↔ (x.Client = y.Client ∧ x.Req = y.Req ∧ x.Code = y.Code ∧ x.Value = y.Value ∧ x.Allocs = y.Allocs) := by
  obtain ⟨_, _, _, _, _⟩ := x; obtain ⟨_, _, _, _, _⟩ := y
  simp only [ASeen.mk.injEq]
theorem AStore.eq_iff {x y : AStore} : x = y ↔ (x.Index = y.Index ∧ x.Next = y.Next ∧ x.Jobs = y.Jobs ∧ x.Stable = y.Stable ∧ x.Nodes = y.Nodes ∧ x.Allocs = y.Allocs ∧ x.Evals = y.Evals ∧ x.Deploys = y.Deploys ∧ x.Seen = y.Seen) := by
  obtain ⟨_, _, _, _, _, _, _, _, _⟩ := x; obtain ⟨_, _, _, _, _, _, _, _, _⟩ := y
  simp only [AStore.mk.injEq]
theorem hEqG (l l' : List AGrp) : phi 71 [encL AGrp.enc l, encL AGrp.enc l'] = .bool (decide (l = l')) := by simp [phi, AGrp.decl]
theorem hEqA (l l' : List AAlc) : phi 62 [encL AAlc.enc l, encL AAlc.enc l'] = .bool (decide (l = l')) := by simp [phi, AAlc.decl]
theorem hEqN (l l' : List ANode) : phi 61 [encL ANode.enc l, encL ANode.enc l'] = .bool (decide (l = l')) := by simp [phi, ANode.decl]
theorem hEqE (l l' : List AEvl) : phi 63 [encL AEvl.enc l, encL AEvl.enc l'] = .bool (decide (l = l')) := by simp [phi, AEvl.decl]
theorem hEqD (l l' : List AEvl) : phi 64 [encL AEvl.enc l, encL AEvl.enc l'] = .bool (decide (l = l')) := by simp [phi, AEvl.decl]
theorem c60 : PureFn Try.prog 60 s60 (pre 60) (phi 60) := by
  refine pureFn_auto (given := []) mix con64 Try.func60 (by kernel_rfl) (v := vc60) (by kernel_rfl) ?_
  intro ds h hp
  obtain ⟨_, _, rfl, ga, _, _, rfl, gb, rfl⟩ := h
  obtain ⟨x, rfl, hx⟩ := AJob.cases ga
  obtain ⟨y, rfl, hy⟩ := AJob.cases gb
  have hR : phi 60 [x.enc, y.enc] = .bool (decide (x = y)) := by simp [phi, AJob.dec_enc]
  simp [vc60, vh_obl, vh_call, vh_room, vh_branch, vh_loop, vh_again, vh_ret, vh_any, vh_hav, pre, updV, den, U.den, B.den, upd, condB, toL_list, toL_agg, toL_tup, toL_ptr, toL_fn, toI_int, toB_bool, AJob.toL, hR, hEqG]
  rw [Bool.eq_iff_iff]
  simp [AJob.eq_iff, and_assoc]
theorem con60 : Con Try.prog pre phi tb60 := con_cons c60 con64

theorem c66 : PureFn Try.prog 66 s66 (pre 66) (phi 66) := by
  refine pureFn_auto (given := []) mix con60 Try.func66 (by kernel_rfl) (v := vc66) (by kernel_rfl) ?_
  intro ds h hp
  obtain ⟨_, _, rfl, ga, _, _, rfl, gb, rfl⟩ := h
  obtain ⟨x, rfl, hx⟩ := ASeen.cases ga
  obtain ⟨y, rfl, hy⟩ := ASeen.cases gb
  have hR : phi 66 [x.enc, y.enc] = .bool (decide (x = y)) := by simp [phi, ASeen.dec_enc]
  simp [vc66, vh_obl, vh_call, vh_room, vh_branch, vh_loop, vh_again, vh_ret, vh_any, vh_hav, pre, updV, den, U.den, B.den, upd, condB, toL_list, toL_agg, toL_tup, toL_ptr, toL_fn, toI_int, toB_bool, ASeen.toL, hR, hEqA]
  rw [Bool.eq_iff_iff]
  simp [ASeen.eq_iff, and_assoc]
theorem con66 : Con Try.prog pre phi tb66 := con_cons c66 con60

theorem c59 : PureFn Try.prog 59 s59 (pre 59) (phi 59) := by
  refine pureFn_auto (given := []) mix con66 Try.func59 (by kernel_rfl) (v := vc59) (by kernel_rfl) ?_
  intro ds h hp
  obtain ⟨_, _, rfl, ga, _, _, rfl, gb, _, _, rfl, ⟨_, rfl, gf⟩, rfl⟩ := h
  obtain ⟨l, rfl, hl, hg⟩ := AJob.cases_l ga
  obtain ⟨l', rfl, hl', hg'⟩ := AJob.cases_l gb
  obtain rfl := gf
  have hR : phi 59 [encL AJob.enc l, encL AJob.enc l', .fn 60 []] = .bool (decide (l = l')) := by simp [phi, AJob.decl, updV, den, U.den, B.den, upd, condB, toL_list, toL_agg, toL_tup, toL_ptr, toL_fn, toI_int, toB_bool]
  have hC : ∀ x y : AJob, phi 60 [x.enc, y.enc] = .bool (decide (x = y)) := fun x y => by simp [phi, AJob.dec_enc]
  simp only [vc59, vh_obl, vh_call, vh_room, vh_branch, vh_loop, vh_again, vh_ret, vh_any, vh_hav, pre, implies_true, true_and, forall_eq, hR]
  refine ⟨fun hne => ?_, fun heq => ?_⟩
  · simp [updV, den, U.den, B.den, upd, condB, toL_list, toL_agg, toL_tup, toL_ptr, toL_fn, toI_int, toB_bool, encL_toL] at hne
    have : l ≠ l' := by rintro rfl; exact hne rfl
    simp [updV, den, U.den, B.den, upd, condB, toL_list, toL_agg, toL_tup, toL_ptr, toL_fn, toI_int, toB_bool, this]
  · have hll : l.length = l'.length := by
      have h9 := heq
      simp [updV, den, U.den, B.den, upd, condB, toL_list, toL_agg, toL_tup, toL_ptr, toL_fn, toI_int, toB_bool, encL_toL] at h9
      omega
    refine LoopOk.intro (EqJ l l' 1) (FM l 1) (EqJ.start _ _ rfl) ?_
    intro xs hxs hJ
    obtain ⟨_, _, rfl, ⟨z, rfl⟩, _, _, rfl, ⟨i, rfl, _⟩, rfl⟩ := hxs
    obtain ⟨n, hn, hle, ht⟩ := hJ
    obtain rfl : i = n := hn
    rcases hx : l[n]? with _ | x
    · have hge := ge_none hx
      have hd := EqJ.done hx hll ht
      have hnl : ¬ n < l.length := by omega
      simp [updV, den, U.den, B.den, upd, condB, toL_list, toL_agg, toL_tup, toL_ptr, toL_fn, toI_int, toB_bool, encL_toL, hnl, hd]
      try omega
    · obtain ⟨hlt, hge⟩ := List.getElem?_eq_some_iff.1 hx
      have hlt' : n < l'.length := by omega
      obtain ⟨y, hy⟩ : ∃ y, l'[n]? = some y := ⟨_, List.getElem?_eq_getElem hlt'⟩
      obtain ⟨_, hge'⟩ := List.getElem?_eq_some_iff.1 hy
      have hw := next64 hl.1 hlt
      by_cases hxy : x = y
      · subst hxy
        simp [updV, den, U.den, B.den, upd, condB, toL_list, toL_agg, toL_tup, toL_ptr, toL_fn, toI_int, toB_bool, encL_toL, AJob.toL, AJob.fold, hge, hge', hlt, hlt', hw, hC]
        exact EqJ.next hx hy ht rfl rfl
      · have hb := EqJ.bad hx hy hxy
        simp [updV, den, U.den, B.den, upd, condB, toL_list, toL_agg, toL_tup, toL_ptr, toL_fn, toI_int, toB_bool, encL_toL, AJob.toL, AJob.fold, hge, hge', hlt, hlt', hw, hb, hC, hxy]
theorem con59 : Con Try.prog pre phi tb59 := con_cons c59 con66

theorem c65 : PureFn Try.prog 65 s65 (pre 65) (phi 65) := by
  refine pureFn_auto (given := []) mix con59 Try.func65 (by kernel_rfl) (v := vc65) (by kernel_rfl) ?_
  intro ds h hp
  obtain ⟨_, _, rfl, ga, _, _, rfl, gb, _, _, rfl, ⟨_, rfl, gf⟩, rfl⟩ := h
  obtain ⟨l, rfl, hl, hg⟩ := ASeen.cases_l ga
  obtain ⟨l', rfl, hl', hg'⟩ := ASeen.cases_l gb
  obtain rfl := gf
  have hR : phi 65 [encL ASeen.enc l, encL ASeen.enc l', .fn 66 []] = .bool (decide (l = l')) := by simp [phi, ASeen.decl, updV, den, U.den, B.den, upd, condB, toL_list, toL_agg, toL_tup, toL_ptr, toL_fn, toI_int, toB_bool]
  have hC : ∀ x y : ASeen, phi 66 [x.enc, y.enc] = .bool (decide (x = y)) := fun x y => by simp [phi, ASeen.dec_enc]
  simp only [vc65, vh_obl, vh_call, vh_room, vh_branch, vh_loop, vh_again, vh_ret, vh_any, vh_hav, pre, implies_true, true_and, forall_eq, hR]
  refine ⟨fun hne => ?_, fun heq => ?_⟩
  · simp [updV, den, U.den, B.den, upd, condB, toL_list, toL_agg, toL_tup, toL_ptr, toL_fn, toI_int, toB_bool, encL_toL] at hne
    have : l ≠ l' := by rintro rfl; exact hne rfl
    simp [updV, den, U.den, B.den, upd, condB, toL_list, toL_agg, toL_tup, toL_ptr, toL_fn, toI_int, toB_bool, this]
  · have hll : l.length = l'.length := by
      have h9 := heq
      simp [updV, den, U.den, B.den, upd, condB, toL_list, toL_agg, toL_tup, toL_ptr, toL_fn, toI_int, toB_bool, encL_toL] at h9
      omega
    refine LoopOk.intro (EqJ l l' 1) (FM l 1) (EqJ.start _ _ rfl) ?_
    intro xs hxs hJ
    obtain ⟨_, _, rfl, ⟨z, rfl⟩, _, _, rfl, ⟨i, rfl, _⟩, rfl⟩ := hxs
    obtain ⟨n, hn, hle, ht⟩ := hJ
    obtain rfl : i = n := hn
    rcases hx : l[n]? with _ | x
    · have hge := ge_none hx
      have hd := EqJ.done hx hll ht
      have hnl : ¬ n < l.length := by omega
      simp [updV, den, U.den, B.den, upd, condB, toL_list, toL_agg, toL_tup, toL_ptr, toL_fn, toI_int, toB_bool, encL_toL, hnl, hd]
      try omega
    · obtain ⟨hlt, hge⟩ := List.getElem?_eq_some_iff.1 hx
      have hlt' : n < l'.length := by omega
      obtain ⟨y, hy⟩ : ∃ y, l'[n]? = some y := ⟨_, List.getElem?_eq_getElem hlt'⟩
      obtain ⟨_, hge'⟩ := List.getElem?_eq_some_iff.1 hy
      have hw := next64 hl.1 hlt
      by_cases hxy : x = y
      · subst hxy
        simp [updV, den, U.den, B.den, upd, condB, toL_list, toL_agg, toL_tup, toL_ptr, toL_fn, toI_int, toB_bool, encL_toL, ASeen.toL, ASeen.fold, hge, hge', hlt, hlt', hw, hC]
        exact EqJ.next hx hy ht rfl rfl
      · have hb := EqJ.bad hx hy hxy
        simp [updV, den, U.den, B.den, upd, condB, toL_list, toL_agg, toL_tup, toL_ptr, toL_fn, toI_int, toB_bool, encL_toL, ASeen.toL, ASeen.fold, hge, hge', hlt, hlt', hw, hb, hC, hxy]
theorem con65 : Con Try.prog pre phi tb65 := con_cons c65 con59


theorem hEqJ (l l' : List AJob) : phi 59 [encL AJob.enc l, encL AJob.enc l', .fn 60 []] = .bool (decide (l = l')) := by simp [phi, AJob.decl]
theorem hEqS (l l' : List ASeen) : phi 65 [encL ASeen.enc l, encL ASeen.enc l', .fn 66 []] = .bool (decide (l = l')) := by simp [phi, ASeen.decl]
theorem c33 : PureFn Try.prog 33 s33 (pre 33) (phi 33) := by
  refine pureFn_auto (given := []) mix con65 Try.func33 (by kernel_rfl) (v := vc33) (by kernel_rfl) ?_
  intro ds h hp
  obtain ⟨_, _, rfl, ga, _, _, rfl, gb, rfl⟩ := h
  obtain ⟨x, rfl, hx⟩ := AStore.cases ga
  obtain ⟨y, rfl, hy⟩ := AStore.cases gb
  have hR : phi 33 [x.enc, y.enc] = .bool (decide (x = y)) := by simp [phi, AStore.dec_enc]
  simp [vc33, vh_obl, vh_call, vh_room, vh_branch, vh_loop, vh_again, vh_ret, vh_any, vh_hav, pre, updV, den, U.den, B.den, upd, condB, toL_list, toL_agg, toL_tup, toL_ptr, toL_fn, toI_int, toB_bool, AStore.toL, hR, hEqJ, hEqS, hEqN, hEqA, hEqE, hEqD]
  rw [Bool.eq_iff_iff]
  simp [AStore.eq_iff, and_assoc]
theorem con33 : Con Try.prog pre phi tb33 := con_cons c33 con65

theorem c70 : PureFn Try.prog 70 s70 (pre 70) (phi 70) := by
  refine pureFn_auto (given := []) mix con33 Try.func70 (by kernel_rfl) (v := vc70) (by kernel_rfl) ?_
  intro ds h hp
  obtain ⟨_, _, rfl, ga, _, _, rfl, gb, rfl⟩ := h
  obtain ⟨x0, rfl, hx0⟩ := AJob.cases ga
  obtain ⟨y0, rfl, hy0⟩ := AJob.cases gb
  have hR : phi 70 [x0.enc, y0.enc] = .bool (decide (x0 = y0)) := by simp [phi, AJob.dec_enc]
  obtain ⟨l, hl0⟩ : ∃ l, l = x0.Groups := ⟨_, rfl⟩
  obtain ⟨l', hl0'⟩ : ∃ l', l' = y0.Groups := ⟨_, rfl⟩
  have hl : lenOk grpT l.length := by rw [hl0]; exact hx0.Groups.1
  simp only [vc70, vh_obl, vh_call, vh_room, vh_branch, vh_loop, vh_again, vh_ret, vh_any, vh_hav, pre, implies_true, true_and, forall_eq, hR]
  refine ⟨fun hne => ?_, fun heq => ?_⟩
  · have : x0 ≠ y0 := by
      rintro rfl
      simp [updV, den, U.den, B.den, upd, condB, toL_list, toL_agg, toL_tup, toL_ptr, toL_fn, toI_int, toB_bool, encL_toL, AJob.toL] at hne
    simp [updV, den, U.den, B.den, upd, condB, toL_list, toL_agg, toL_tup, toL_ptr, toL_fn, toI_int, toB_bool, this]
  · have h9 := heq
    simp [updV, den, U.den, B.den, upd, condB, toL_list, toL_agg, toL_tup, toL_ptr, toL_fn, toI_int, toB_bool, encL_toL, AJob.toL, and_assoc] at h9
    have hll : l.length = l'.length := by rw [hl0, hl0']; omega
    have hiff : x0 = y0 ↔ l = l' := by
      rw [AJob.eq_iff, hl0, hl0']
      exact ⟨fun h => h.2.2.2.2.2.2, fun h => ⟨h9.1, h9.2.1, h9.2.2.1, h9.2.2.2.1, h9.2.2.2.2.1, h9.2.2.2.2.2.1, h⟩⟩
    refine LoopOk.intro (EqJ l l' 1) (FM l 1) (EqJ.start _ _ rfl) ?_
    intro xs hxs hJ
    obtain ⟨_, _, rfl, ⟨z, rfl⟩, _, _, rfl, ⟨i, rfl, _⟩, rfl⟩ := hxs
    obtain ⟨n, hn, hle, ht⟩ := hJ
    obtain rfl : i = n := hn
    rcases hx : l[n]? with _ | x
    · have hge := ge_none hx
      have hd := hiff.2 (EqJ.done hx hll ht)
      have hnl : ¬ n < x0.Groups.length := by rw [← hl0]; omega
      simp [updV, den, U.den, B.den, upd, condB, toL_list, toL_agg, toL_tup, toL_ptr, toL_fn, toI_int, toB_bool, encL_toL, AJob.toL, hnl, hd]
      try omega
    · obtain ⟨hlt, hge⟩ := List.getElem?_eq_some_iff.1 hx
      have hlt' : n < l'.length := by omega
      obtain ⟨y, hy⟩ : ∃ y, l'[n]? = some y := ⟨_, List.getElem?_eq_getElem hlt'⟩
      obtain ⟨_, hge'⟩ := List.getElem?_eq_some_iff.1 hy
      have hw := next64 hl.1 hlt
      have q1 : x0.Groups[n]? = some x := by rw [← hl0]; exact hx
      have q2 : y0.Groups[n]? = some y := by rw [← hl0']; exact hy
      obtain ⟨q3, q5⟩ := List.getElem?_eq_some_iff.1 q1
      obtain ⟨q4, q6⟩ := List.getElem?_eq_some_iff.1 q2
      by_cases hxy : x = y
      · subst hxy
        simp [updV, den, U.den, B.den, upd, condB, toL_list, toL_agg, toL_tup, toL_ptr, toL_fn, toI_int, toB_bool, encL_toL, AGrp.toL, AJob.toL, q3, q4, q5, q6, hw]
        exact EqJ.next hx hy ht rfl rfl
      · have hb := mt hiff.1 (EqJ.bad hx hy hxy)
        rw [AGrp.eq_iff] at hxy
        simp [AGrp.toL] at hxy
        simp [updV, den, U.den, B.den, upd, condB, toL_list, toL_agg, toL_tup, toL_ptr, toL_fn, toI_int, toB_bool, encL_toL, AGrp.toL, AJob.toL, q3, q4, q5, q6, hw, hb]
        intros; exfalso; apply hxy <;> assumption
theorem con70 : Con Try.prog pre phi tb70 := con_cons c70 con33

theorem c56 : PureFn Try.prog 56 s56 (pre 56) (phi 56) := by
  refine pureFn_auto (given := []) mix con70 Try.func56 (by kernel_rfl) (v := vc56) (by kernel_rfl) ?_
  intro ds h hp
  obtain ⟨_, _, rfl, ga, _, _, rfl, gb, rfl⟩ := h
  obtain ⟨l, rfl, hl, hg⟩ := AJob.cases_l ga
  obtain ⟨l', rfl, hl', hg'⟩ := AJob.cases_l gb
  have hR : phi 56 [encL AJob.enc l, encL AJob.enc l'] = .bool (decide (l = l')) := by simp [phi, AJob.decl, updV, den, U.den, B.den, upd, condB, toL_list, toL_agg, toL_tup, toL_ptr, toL_fn, toI_int, toB_bool]
  have hC : ∀ x y : AJob, phi 70 [x.enc, y.enc] = .bool (decide (x = y)) := fun x y => by simp [phi, AJob.dec_enc]
  simp only [vc56, vh_obl, vh_call, vh_room, vh_branch, vh_loop, vh_again, vh_ret, vh_any, vh_hav, pre, implies_true, true_and, forall_eq, hR]
  refine ⟨fun hne => ?_, fun heq => ?_⟩
  · simp [updV, den, U.den, B.den, upd, condB, toL_list, toL_agg, toL_tup, toL_ptr, toL_fn, toI_int, toB_bool, encL_toL] at hne
    have : l ≠ l' := by rintro rfl; exact hne rfl
    simp [updV, den, U.den, B.den, upd, condB, toL_list, toL_agg, toL_tup, toL_ptr, toL_fn, toI_int, toB_bool, this]
  · have hll : l.length = l'.length := by
      have h9 := heq
      simp [updV, den, U.den, B.den, upd, condB, toL_list, toL_agg, toL_tup, toL_ptr, toL_fn, toI_int, toB_bool, encL_toL] at h9
      omega
    refine LoopOk.intro (EqJ l l' 1) (FM l 1) (EqJ.start _ _ rfl) ?_
    intro xs hxs hJ
    obtain ⟨_, _, rfl, ⟨z, rfl⟩, _, _, rfl, ⟨i, rfl, _⟩, rfl⟩ := hxs
    obtain ⟨n, hn, hle, ht⟩ := hJ
    obtain rfl : i = n := hn
    rcases hx : l[n]? with _ | x
    · have hge := ge_none hx
      have hd := EqJ.done hx hll ht
      have hnl : ¬ n < l.length := by omega
      simp [updV, den, U.den, B.den, upd, condB, toL_list, toL_agg, toL_tup, toL_ptr, toL_fn, toI_int, toB_bool, encL_toL, hnl, hd]
      try omega
    · obtain ⟨hlt, hge⟩ := List.getElem?_eq_some_iff.1 hx
      have hlt' : n < l'.length := by omega
      obtain ⟨y, hy⟩ : ∃ y, l'[n]? = some y := ⟨_, List.getElem?_eq_getElem hlt'⟩
      obtain ⟨_, hge'⟩ := List.getElem?_eq_some_iff.1 hy
      have hw := next64 hl.1 hlt
      by_cases hxy : x = y
      · subst hxy
        simp [updV, den, U.den, B.den, upd, condB, toL_list, toL_agg, toL_tup, toL_ptr, toL_fn, toI_int, toB_bool, encL_toL, AJob.toL, AJob.fold, hge, hge', hlt, hlt', hw, hC]
        exact EqJ.next hx hy ht rfl rfl
      · have hb := EqJ.bad hx hy hxy
        simp [updV, den, U.den, B.den, upd, condB, toL_list, toL_agg, toL_tup, toL_ptr, toL_fn, toI_int, toB_bool, encL_toL, AJob.toL, AJob.fold, hge, hge', hlt, hlt', hw, hb, hC, hxy]
theorem con56 : Con Try.prog pre phi tb56 := con_cons c56 con70

theorem c57 : PureFn Try.prog 57 s57 (pre 57) (phi 57) := by
  refine pureFn_auto (given := []) mix con56 Try.func57 (by kernel_rfl) (v := vc57) (by kernel_rfl) ?_
  intro ds h hp
  obtain ⟨_, _, rfl, ga, _, _, rfl, gb, rfl⟩ := h
  obtain ⟨l, rfl, hl, hg⟩ := AAlc.cases_l ga
  obtain ⟨l', rfl, hl', hg'⟩ := AAlc.cases_l gb
  have hR : phi 57 [encL AAlc.enc l, encL AAlc.enc l'] = .bool (decide (l = l')) := by simp [phi, AAlc.decl, updV, den, U.den, B.den, upd, condB, toL_list, toL_agg, toL_tup, toL_ptr, toL_fn, toI_int, toB_bool]
  simp only [vc57, vh_obl, vh_call, vh_room, vh_branch, vh_loop, vh_again, vh_ret, vh_any, vh_hav, pre, implies_true, true_and, forall_eq, hR]
  refine ⟨fun hne => ?_, fun heq => ?_⟩
  · simp [updV, den, U.den, B.den, upd, condB, toL_list, toL_agg, toL_tup, toL_ptr, toL_fn, toI_int, toB_bool, encL_toL] at hne
    have : l ≠ l' := by rintro rfl; exact hne rfl
    simp [updV, den, U.den, B.den, upd, condB, toL_list, toL_agg, toL_tup, toL_ptr, toL_fn, toI_int, toB_bool, this]
  · have hll : l.length = l'.length := by
      have h9 := heq
      simp [updV, den, U.den, B.den, upd, condB, toL_list, toL_agg, toL_tup, toL_ptr, toL_fn, toI_int, toB_bool, encL_toL] at h9
      omega
    refine LoopOk.intro (EqJ l l' 1) (FM l 1) (EqJ.start _ _ rfl) ?_
    intro xs hxs hJ
    obtain ⟨_, _, rfl, ⟨z, rfl⟩, _, _, rfl, ⟨i, rfl, _⟩, rfl⟩ := hxs
    obtain ⟨n, hn, hle, ht⟩ := hJ
    obtain rfl : i = n := hn
    rcases hx : l[n]? with _ | x
    · have hge := ge_none hx
      have hd := EqJ.done hx hll ht
      have hnl : ¬ n < l.length := by omega
      simp [updV, den, U.den, B.den, upd, condB, toL_list, toL_agg, toL_tup, toL_ptr, toL_fn, toI_int, toB_bool, encL_toL, hnl, hd]
      try omega
    · obtain ⟨hlt, hge⟩ := List.getElem?_eq_some_iff.1 hx
      have hlt' : n < l'.length := by omega
      obtain ⟨y, hy⟩ : ∃ y, l'[n]? = some y := ⟨_, List.getElem?_eq_getElem hlt'⟩
      obtain ⟨_, hge'⟩ := List.getElem?_eq_some_iff.1 hy
      have hw := next64 hl.1 hlt
      by_cases hxy : x = y
      · subst hxy
        simp [updV, den, U.den, B.den, upd, condB, toL_list, toL_agg, toL_tup, toL_ptr, toL_fn, toI_int, toB_bool, encL_toL, AAlc.toL, hge, hge', hlt, hlt', hw]
        exact EqJ.next hx hy ht rfl rfl
      · have hb := EqJ.bad hx hy hxy
        rw [AAlc.eq_iff] at hxy
        simp [AAlc.toL] at hxy
        simp [updV, den, U.den, B.den, upd, condB, toL_list, toL_agg, toL_tup, toL_ptr, toL_fn, toI_int, toB_bool, encL_toL, AAlc.toL, hge, hge', hlt, hlt', hw, hb]
        intros; exfalso; apply hxy <;> assumption
theorem con57 : Con Try.prog pre phi tb57 := con_cons c57 con56

theorem c58 : PureFn Try.prog 58 s58 (pre 58) (phi 58) := by
  refine pureFn_auto (given := []) mix con57 Try.func58 (by kernel_rfl) (v := vc58) (by kernel_rfl) ?_
  intro ds h hp
  obtain ⟨_, _, rfl, ⟨_, rfl, _, _, rfl, ⟨c1, rfl, _⟩, _, _, rfl, ⟨v1, rfl, _⟩, _, _, rfl, ga, rfl⟩, _, _, rfl, ⟨_, rfl, _, _, rfl, ⟨c2, rfl, _⟩, _, _, rfl, ⟨v2, rfl, _⟩, _, _, rfl, gb, rfl⟩, rfl⟩ := h
  obtain ⟨l, rfl, hl, hg⟩ := AAlc.cases_l ga
  obtain ⟨l', rfl, hl', hg'⟩ := AAlc.cases_l gb
  have hA : phi 57 [encL AAlc.enc l, encL AAlc.enc l'] = .bool (decide (l = l')) := by simp [phi, AAlc.decl]
  have hR : phi 58 [.agg [.int .i64 c1, .int .i64 v1, encL AAlc.enc l], .agg [.int .i64 c2, .int .i64 v2, encL AAlc.enc l']] = .bool (decide (c1 = c2 ∧ v1 = v2 ∧ l = l')) := by simp [phi, AAlc.decl, I, updV, den, U.den, B.den, upd, condB, toL_list, toL_agg, toL_tup, toL_ptr, toL_fn, toI_int, toB_bool]
  simp [vc58, vh_obl, vh_call, vh_room, vh_branch, vh_loop, vh_again, vh_ret, vh_any, vh_hav, pre, updV, den, U.den, B.den, upd, condB, toL_list, toL_agg, toL_tup, toL_ptr, toL_fn, toI_int, toB_bool, hA, hR]
  rw [Bool.eq_iff_iff]
  simp
  exact ⟨fun ⟨⟨h1, h2⟩, h3⟩ => ⟨h2, h3, h1⟩, fun ⟨h2, h3, h1⟩ => ⟨⟨h1, h2⟩, h3⟩⟩
theorem con58 : Con Try.prog pre phi tb58 := con_cons c58 con57

end Go.Proofs.Ytjpkeliliahjoaa
