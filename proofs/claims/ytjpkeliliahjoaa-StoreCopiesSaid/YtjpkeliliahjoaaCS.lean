/-
  What each function of this seat computes, and that it keeps to it (S).
-/
import Derived.Test.YtjpkeliliahjoaaCE
set_option linter.unusedSimpArgs false
set_option linter.unusedVariables false
namespace Go.Proofs.Ytjpkeliliahjoaa
open Go Go.Eng Go.Proofs


/-- Two lists are alike so far. -/
def EqJ {α : Type} (l l' : List α) (k : Nat) (xs : List D) : Prop := ∃ n : Nat, I (.list xs) k = n ∧ n ≤ l.length ∧ l.take n = l'.take n
theorem EqJ.start {α : Type} (l l' : List α) {k : Nat} {xs : List D} (h : I (.list xs) k = 0) : EqJ l l' k xs := ⟨0, h, Nat.zero_le _, rfl⟩
theorem EqJ.next {α : Type} {l l' : List α} {k n : Nat} {x : α} {xs xs' : List D} (hx : l[n]? = some x) (hy : l'[n]? = some x) (ht : l.take n = l'.take n) (h0 : I (.list xs) k = n) (h1 : I (.list xs') k = (n : Int) + 1) :
    EqJ l l' k xs' ∧ FM l k xs' < FM l k xs := by
  obtain ⟨hlt, hge⟩ := List.getElem?_eq_some_iff.1 hx
  refine ⟨⟨n + 1, h1, hlt, ?_⟩, ?_⟩
  · rw [List.take_add_one, List.take_add_one, hx, hy, ht]
  · simp only [FM, h0, h1]; omega
theorem EqJ.done {α : Type} {l l' : List α} {n : Nat} (hx : l[n]? = none) (hl : l.length = l'.length) (ht : l.take n = l'.take n) : l = l' := by
  have := ge_none hx
  rwa [List.take_of_length_le (by omega), List.take_of_length_le (by omega)] at ht
theorem EqJ.bad {α : Type} {l l' : List α} {n : Nat} {x y : α} (hx : l[n]? = some x) (hy : l'[n]? = some y) (h : x ≠ y) : l ≠ l' := by
  rintro rfl
  rw [hx] at hy; injection hy with hy; exact h hy
theorem AGrp.eq_iff {x y : AGrp} : x = y ↔ (x.enc.toL = y.enc.toL) := by
  obtain ⟨_, _, _⟩ := x; obtain ⟨_, _, _⟩ := y; simp [AGrp.toL]
theorem ANode.eq_iff {x y : ANode} : x = y ↔ (x.enc.toL = y.enc.toL) := by
  obtain ⟨_, _, _, _, _, _, _, _⟩ := x; obtain ⟨_, _, _, _, _, _, _, _⟩ := y; simp [ANode.toL]
theorem AAlc.eq_iff {x y : AAlc} : x = y ↔ (x.enc.toL = y.enc.toL) := by
  obtain ⟨_, _, _, _, _, _, _, _, _, _, _⟩ := x; obtain ⟨_, _, _, _, _, _, _, _, _, _, _⟩ := y; simp [AAlc.toL]
theorem AEvl.eq_iff {x y : AEvl} : x = y ↔ (x.enc.toL = y.enc.toL) := by
  obtain ⟨_, _, _, _⟩ := x; obtain ⟨_, _, _, _⟩ := y; simp [AEvl.toL]
theorem c71 : PureFn Try.prog 71 s71 (pre 71) (phi 71) := by
  refine pureFn_auto (given := []) mix con4 Try.func71 (by kernel_rfl) (v := vc71) (by kernel_rfl) ?_
  intro ds h hp
  obtain ⟨_, _, rfl, ga, _, _, rfl, gb, rfl⟩ := h
  obtain ⟨l, rfl, hl, hg⟩ := AGrp.cases_l ga
  obtain ⟨l', rfl, hl', hg'⟩ := AGrp.cases_l gb
  have hR : phi 71 [encL AGrp.enc l, encL AGrp.enc l'] = .bool (decide (l = l')) := by simp [phi, AGrp.decl, updV, den, U.den, B.den, upd, condB, toL_list, toL_agg, toL_tup, toL_ptr, toL_fn, toI_int, toB_bool]
  simp only [vc71, vh_obl, vh_call, vh_room, vh_branch, vh_loop, vh_again, vh_ret, vh_any, vh_hav, pre, implies_true, true_and, forall_eq, hR]
  refine ⟨fun hne => ?_, fun heq => ?_⟩
  · simp [updV, den, U.den, B.den, upd, condB, toL_list, toL_agg, toL_tup, toL_ptr, toL_fn, toI_int, toB_bool, encL_toL] at hne
    have : l ≠ l' := by rintro rfl; exact hne rfl
    simp [updV, den, U.den, B.den, upd, condB, toL_list, toL_agg, toL_tup, toL_ptr, toL_fn, toI_int, toB_bool, this]
  · have hll : l.length = l'.length := by
      have h9 := heq
      simp [updV, den, U.den, B.den, upd, condB, toL_list, toL_agg, toL_tup, toL_ptr, toL_fn, toI_int, toB_bool, encL_toL] at h9
      omega
    refine LoopOk.intro (EqJ l l' 1) (FM l 1) (EqJ.start _ _ rfl) ?_
    intro xs hxs hJ
    obtain ⟨_, _, rfl, ⟨z, rfl⟩, _, _, rfl, ⟨i, rfl, _⟩, rfl⟩ := hxs
    obtain ⟨n, hn, hle, ht⟩ := hJ
    obtain rfl : i = n := hn
    rcases hx : l[n]? with _ | x
    · have hge := ge_none hx
      have hd := EqJ.done hx hll ht
      have hnl : ¬ n < l.length := by omega
      simp [updV, den, U.den, B.den, upd, condB, toL_list, toL_agg, toL_tup, toL_ptr, toL_fn, toI_int, toB_bool, encL_toL, hnl, hd]
      try omega
    · obtain ⟨hlt, hge⟩ := List.getElem?_eq_some_iff.1 hx
      have hlt' : n < l'.length := by omega
      obtain ⟨y, hy⟩ : ∃ y, l'[n]? = some y := ⟨_, List.getElem?_eq_getElem hlt'⟩
      obtain ⟨_, hge'⟩ := List.getElem?_eq_some_iff.1 hy
      have hw := next64 hl.1 hlt
      by_cases hxy : x = y
      · subst hxy
        simp [updV, den, U.den, B.den, upd, condB, toL_list, toL_agg, toL_tup, toL_ptr, toL_fn, toI_int, toB_bool, encL_toL, AGrp.toL, hge, hge', hlt, hlt', hw]
        exact EqJ.next hx hy ht rfl rfl
      · have hb := EqJ.bad hx hy hxy
        rw [AGrp.eq_iff] at hxy
        simp [AGrp.toL] at hxy
        simp [updV, den, U.den, B.den, upd, condB, toL_list, toL_agg, toL_tup, toL_ptr, toL_fn, toI_int, toB_bool, encL_toL, AGrp.toL, hge, hge', hlt, hlt', hw, hb]
        intros; exfalso; apply hxy <;> assumption
theorem con71 : Con Try.prog pre phi tb71 := con_cons c71 con4

theorem c61 : PureFn Try.prog 61 s61 (pre 61) (phi 61) := by
  refine pureFn_auto (given := []) mix con71 Try.func61 (by kernel_rfl) (v := vc61) (by kernel_rfl) ?_
  intro ds h hp
  obtain ⟨_, _, rfl, ga, _, _, rfl, gb, rfl⟩ := h
  obtain ⟨l, rfl, hl, hg⟩ := ANode.cases_l ga
  obtain ⟨l', rfl, hl', hg'⟩ := ANode.cases_l gb
  have hR : phi 61 [encL ANode.enc l, encL ANode.enc l'] = .bool (decide (l = l')) := by simp [phi, ANode.decl, updV, den, U.den, B.den, upd, condB, toL_list, toL_agg, toL_tup, toL_ptr, toL_fn, toI_int, toB_bool]
  simp only [vc61, vh_obl, vh_call, vh_room, vh_branch, vh_loop, vh_again, vh_ret, vh_any, vh_hav, pre, implies_true, true_and, forall_eq, hR]
  refine ⟨fun hne => ?_, fun heq => ?_⟩
  · simp [updV, den, U.den, B.den, upd, condB, toL_list, toL_agg, toL_tup, toL_ptr, toL_fn, toI_int, toB_bool, encL_toL] at hne
    have : l ≠ l' := by rintro rfl; exact hne rfl
    simp [updV, den, U.den, B.den, upd, condB, toL_list, toL_agg, toL_tup, toL_ptr, toL_fn, toI_int, toB_bool, this]
  · have hll : l.length = l'.length := by
      have h9 := heq
      simp [updV, den, U.den, B.den, upd, condB, toL_list, toL_agg, toL_tup, toL_ptr, toL_fn, toI_int, toB_bool, encL_toL] at h9
      omega
    refine LoopOk.intro (EqJ l l' 1) (FM l 1) (EqJ.start _ _ rfl) ?_
    intro xs hxs hJ
    obtain ⟨_, _, rfl, ⟨z, rfl⟩, _, _, rfl, ⟨i, rfl, _⟩, rfl⟩ := hxs
    obtain ⟨n, hn, hle, ht⟩ := hJ
    obtain rfl : i = n := hn
    rcases hx : l[n]? with _ | x
    · have hge := ge_none hx
      have hd := EqJ.done hx hll ht
      have hnl : ¬ n < l.length := by omega
      simp [updV, den, U.den, B.den, upd, condB, toL_list, toL_agg, toL_tup, toL_ptr, toL_fn, toI_int, toB_bool, encL_toL, hnl, hd]
      try omega
    · obtain ⟨hlt, hge⟩ := List.getElem?_eq_some_iff.1 hx
      have hlt' : n < l'.length := by omega
      obtain ⟨y, hy⟩ : ∃ y, l'[n]? = some y := ⟨_, List.getElem?_eq_getElem hlt'⟩
      obtain ⟨_, hge'⟩ := List.getElem?_eq_some_iff.1 hy
      have hw := next64 hl.1 hlt
      by_cases hxy : x = y
      · subst hxy
        simp [updV, den, U.den, B.den, upd, condB, toL_list, toL_agg, toL_tup, toL_ptr, toL_fn, toI_int, toB_bool, encL_toL, ANode.toL, hge, hge', hlt, hlt', hw]
        exact EqJ.next hx hy ht rfl rfl
      · have hb := EqJ.bad hx hy hxy
        rw [ANode.eq_iff] at hxy
        simp [ANode.toL] at hxy
        simp [updV, den, U.den, B.den, upd, condB, toL_list, toL_agg, toL_tup, toL_ptr, toL_fn, toI_int, toB_bool, encL_toL, ANode.toL, hge, hge', hlt, hlt', hw, hb]
        intros; exfalso; apply hxy <;> assumption
theorem con61 : Con Try.prog pre phi tb61 := con_cons c61 con71

theorem c62 : PureFn Try.prog 62 s62 (pre 62) (phi 62) := by
  refine pureFn_auto (given := []) mix con61 Try.func62 (by kernel_rfl) (v := vc62) (by kernel_rfl) ?_
  intro ds h hp
  obtain ⟨_, _, rfl, ga, _, _, rfl, gb, rfl⟩ := h
  obtain ⟨l, rfl, hl, hg⟩ := AAlc.cases_l ga
  obtain ⟨l', rfl, hl', hg'⟩ := AAlc.cases_l gb
  have hR : phi 62 [encL AAlc.enc l, encL AAlc.enc l'] = .bool (decide (l = l')) := by simp [phi, AAlc.decl, updV, den, U.den, B.den, upd, condB, toL_list, toL_agg, toL_tup, toL_ptr, toL_fn, toI_int, toB_bool]
  simp only [vc62, vh_obl, vh_call, vh_room, vh_branch, vh_loop, vh_again, vh_ret, vh_any, vh_hav, pre, implies_true, true_and, forall_eq, hR]
  refine ⟨fun hne => ?_, fun heq => ?_⟩
  · simp [updV, den, U.den, B.den, upd, condB, toL_list, toL_agg, toL_tup, toL_ptr, toL_fn, toI_int, toB_bool, encL_toL] at hne
    have : l ≠ l' := by rintro rfl; exact hne rfl
    simp [updV, den, U.den, B.den, upd, condB, toL_list, toL_agg, toL_tup, toL_ptr, toL_fn, toI_int, toB_bool, this]
  · have hll : l.length = l'.length := by
      have h9 := heq
      simp [updV, den, U.den, B.den, upd, condB, toL_list, toL_agg, toL_tup, toL_ptr, toL_fn, toI_int, toB_bool, encL_toL] at h9
      omega
    refine LoopOk.intro (EqJ l l' 1) (FM l 1) (EqJ.start _ _ rfl) ?_
    intro xs hxs hJ
    obtain ⟨_, _, rfl, ⟨z, rfl⟩, _, _, rfl, ⟨i, rfl, _⟩, rfl⟩ := hxs
    obtain ⟨n, hn, hle, ht⟩ := hJ
    obtain rfl : i = n := hn
    rcases hx : l[n]? with _ | x
    · have hge := ge_none hx
      have hd := EqJ.done hx hll ht
      have hnl : ¬ n < l.length := by omega
      simp [updV, den, U.den, B.den, upd, condB, toL_list, toL_agg, toL_tup, toL_ptr, toL_fn, toI_int, toB_bool, encL_toL, hnl, hd]
      try omega
    · obtain ⟨hlt, hge⟩ := List.getElem?_eq_some_iff.1 hx
      have hlt' : n < l'.length := by omega
      obtain ⟨y, hy⟩ : ∃ y, l'[n]? = some y := ⟨_, List.getElem?_eq_getElem hlt'⟩
      obtain ⟨_, hge'⟩ := List.getElem?_eq_some_iff.1 hy
      have hw := next64 hl.1 hlt
      by_cases hxy : x = y
      · subst hxy
        simp [updV, den, U.den, B.den, upd, condB, toL_list, toL_agg, toL_tup, toL_ptr, toL_fn, toI_int, toB_bool, encL_toL, AAlc.toL, hge, hge', hlt, hlt', hw]
        exact EqJ.next hx hy ht rfl rfl
      · have hb := EqJ.bad hx hy hxy
        rw [AAlc.eq_iff] at hxy
        simp [AAlc.toL] at hxy
        simp [updV, den, U.den, B.den, upd, condB, toL_list, toL_agg, toL_tup, toL_ptr, toL_fn, toI_int, toB_bool, encL_toL, AAlc.toL, hge, hge', hlt, hlt', hw, hb]
        intros; exfalso; apply hxy <;> assumption
theorem con62 : Con Try.prog pre phi tb62 := con_cons c62 con61

theorem c63 : PureFn Try.prog 63 s63 (pre 63) (phi 63) := by
  refine pureFn_auto (given := []) mix con62 Try.func63 (by kernel_rfl) (v := vc63) (by kernel_rfl) ?_
  intro ds h hp
  obtain ⟨_, _, rfl, ga, _, _, rfl, gb, rfl⟩ := h
  obtain ⟨l, rfl, hl, hg⟩ := AEvl.cases_l ga
  obtain ⟨l', rfl, hl', hg'⟩ := AEvl.cases_l gb
  have hR : phi 63 [encL AEvl.enc l, encL AEvl.enc l'] = .bool (decide (l = l')) := by simp [phi, AEvl.decl, updV, den, U.den, B.den, upd, condB, toL_list, toL_agg, toL_tup, toL_ptr, toL_fn, toI_int, toB_bool]
  simp only [vc63, vh_obl, vh_call, vh_room, vh_branch, vh_loop, vh_again, vh_ret, vh_any, vh_hav, pre, implies_true, true_and, forall_eq, hR]
  refine ⟨fun hne => ?_, fun heq => ?_⟩
  · simp [updV, den, U.den, B.den, upd, condB, toL_list, toL_agg, toL_tup, toL_ptr, toL_fn, toI_int, toB_bool, encL_toL] at hne
    have : l ≠ l' := by rintro rfl; exact hne rfl
    simp [updV, den, U.den, B.den, upd, condB, toL_list, toL_agg, toL_tup, toL_ptr, toL_fn, toI_int, toB_bool, this]
  · have hll : l.length = l'.length := by
      have h9 := heq
      simp [updV, den, U.den, B.den, upd, condB, toL_list, toL_agg, toL_tup, toL_ptr, toL_fn, toI_int, toB_bool, encL_toL] at h9
      omega
    refine LoopOk.intro (EqJ l l' 1) (FM l 1) (EqJ.start _ _ rfl) ?_
    intro xs hxs hJ
    obtain ⟨_, _, rfl, ⟨z, rfl⟩, _, _, rfl, ⟨i, rfl, _⟩, rfl⟩ := hxs
    obtain ⟨n, hn, hle, ht⟩ := hJ
    obtain rfl : i = n := hn
    rcases hx : l[n]? with _ | x
    · have hge := ge_none hx
      have hd := EqJ.done hx hll ht
      have hnl : ¬ n < l.length := by omega
      simp [updV, den, U.den, B.den, upd, condB, toL_list, toL_agg, toL_tup, toL_ptr, toL_fn, toI_int, toB_bool, encL_toL, hnl, hd]
      try omega
    · obtain ⟨hlt, hge⟩ := List.getElem?_eq_some_iff.1 hx
      have hlt' : n < l'.length := by omega
      obtain ⟨y, hy⟩ : ∃ y, l'[n]? = some y := ⟨_, List.getElem?_eq_getElem hlt'⟩
      obtain ⟨_, hge'⟩ := List.getElem?_eq_some_iff.1 hy
      have hw := next64 hl.1 hlt
      by_cases hxy : x = y
      · subst hxy
        simp [updV, den, U.den, B.den, upd, condB, toL_list, toL_agg, toL_tup, toL_ptr, toL_fn, toI_int, toB_bool, encL_toL, AEvl.toL, hge, hge', hlt, hlt', hw]
        exact EqJ.next hx hy ht rfl rfl
      · have hb := EqJ.bad hx hy hxy
        rw [AEvl.eq_iff] at hxy
        simp [AEvl.toL] at hxy
        simp [updV, den, U.den, B.den, upd, condB, toL_list, toL_agg, toL_tup, toL_ptr, toL_fn, toI_int, toB_bool, encL_toL, AEvl.toL, hge, hge', hlt, hlt', hw, hb]
        intros; exfalso; apply hxy <;> assumption
theorem con63 : Con Try.prog pre phi tb63 := con_cons c63 con62

theorem c64 : PureFn Try.prog 64 s64 (pre 64) (phi 64) := by
  refine pureFn_auto (given := []) mix con63 Try.func64 (by kernel_rfl) (v := vc64) (by kernel_rfl) ?_
  intro ds h hp
  obtain ⟨_, _, rfl, ga, _, _, rfl, gb, rfl⟩ := h
  obtain ⟨l, rfl, hl, hg⟩ := AEvl.cases_l ga
  obtain ⟨l', rfl, hl', hg'⟩ := AEvl.cases_l gb
  have hR : phi 64 [encL AEvl.enc l, encL AEvl.enc l'] = .bool (decide (l = l')) := by simp [phi, AEvl.decl, updV, den, U.den, B.den, upd, condB, toL_list, toL_agg, toL_tup, toL_ptr, toL_fn, toI_int, toB_bool]
  simp only [vc64, vh_obl, vh_call, vh_room, vh_branch, vh_loop, vh_again, vh_ret, vh_any, vh_hav, pre, implies_true, true_and, forall_eq, hR]
  refine ⟨fun hne => ?_, fun heq => ?_⟩
  · simp [updV, den, U.den, B.den, upd, condB, toL_list, toL_agg, toL_tup, toL_ptr, toL_fn, toI_int, toB_bool, encL_toL] at hne
    have : l ≠ l' := by rintro rfl; exact hne rfl
    simp [updV, den, U.den, B.den, upd, condB, toL_list, toL_agg, toL_tup, toL_ptr, toL_fn, toI_int, toB_bool, this]
  · have hll : l.length = l'.length := by
      have h9 := heq
      simp [updV, den, U.den, B.den, upd, condB, toL_list, toL_agg, toL_tup, toL_ptr, toL_fn, toI_int, toB_bool, encL_toL] at h9
      omega
    refine LoopOk.intro (EqJ l l' 1) (FM l 1) (EqJ.start _ _ rfl) ?_
    intro xs hxs hJ
    obtain ⟨_, _, rfl, ⟨z, rfl⟩, _, _, rfl, ⟨i, rfl, _⟩, rfl⟩ := hxs
    obtain ⟨n, hn, hle, ht⟩ := hJ
    obtain rfl : i = n := hn
    rcases hx : l[n]? with _ | x
    · have hge := ge_none hx
      have hd := EqJ.done hx hll ht
      have hnl : ¬ n < l.length := by omega
      simp [updV, den, U.den, B.den, upd, condB, toL_list, toL_agg, toL_tup, toL_ptr, toL_fn, toI_int, toB_bool, encL_toL, hnl, hd]
      try omega
    · obtain ⟨hlt, hge⟩ := List.getElem?_eq_some_iff.1 hx
      have hlt' : n < l'.length := by omega
      obtain ⟨y, hy⟩ : ∃ y, l'[n]? = some y := ⟨_, List.getElem?_eq_getElem hlt'⟩
      obtain ⟨_, hge'⟩ := List.getElem?_eq_some_iff.1 hy
      have hw := next64 hl.1 hlt
      by_cases hxy : x = y
      · subst hxy
        simp [updV, den, U.den, B.den, upd, condB, toL_list, toL_agg, toL_tup, toL_ptr, toL_fn, toI_int, toB_bool, encL_toL, AEvl.toL, hge, hge', hlt, hlt', hw]
        exact EqJ.next hx hy ht rfl rfl
      · have hb := EqJ.bad hx hy hxy
        rw [AEvl.eq_iff] at hxy
        simp [AEvl.toL] at hxy
        simp [updV, den, U.den, B.den, upd, condB, toL_list, toL_agg, toL_tup, toL_ptr, toL_fn, toI_int, toB_bool, encL_toL, AEvl.toL, hge, hge', hlt, hlt', hw, hb]
        intros; exfalso; apply hxy <;> assumption
theorem con64 : Con Try.prog pre phi tb64 := con_cons c64 con63

end Go.Proofs.Ytjpkeliliahjoaa
