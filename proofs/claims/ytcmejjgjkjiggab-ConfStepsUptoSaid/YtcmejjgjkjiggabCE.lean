/-
  What each function of this seat computes, and that it keeps to it (E).
-/
import Derived.Test.YtcmejjgjkjiggabCD
import Derived.Test.YtcmejjgjkjiggabL
set_option linter.unusedSimpArgs false
set_option linter.unusedVariables false
namespace Go.Proofs.Ytcmejjgjkjiggab
open Go Go.Eng Go.Proofs

theorem c19 : PureFn Try.prog 19 s19 (pre 19) (phi 19) := by
  refine pureFn_auto (given := []) mix con8 Try.func19 (by kernel_rfl) (v := vc19) (by kernel_rfl) ?_
  intro ds h hp
  obtain ⟨_, _, rfl, gl, _, _, rfl, gb, rfl⟩ := h
  obtain ⟨l, rfl, hl, hkl⟩ := intsD gl
  obtain ⟨b, rfl, hb⟩ := has_int.1 gb
  rw [inK64] at hb

  have hR : phi 19 [.list (l.map (D.int .i64)), .int .i64 b] = .bool (decide (b ∈ l)) := by simp [phi, intsOf_list, toI_int]
  simp [vc19, vh_obl, vh_call, vh_room, vh_branch, vh_loop, vh_again, vh_ret, updV, den, U.den, B.den, upd, condB, toL_list, toL_agg, toL_tup, toL_ptr, toL_fn, toI_int, toB_bool, List.getElem?_map, Option.map_some, Option.getD_some, List.length_map, pre, hR]
  refine LoopOk.intro (fun xs => ∃ n : Nat, xs = [.bool false, .int .i64 n] ∧ n ≤ l.length ∧ ∀ y ∈ l.take n, y ≠ b) (fun xs => l.length - (I (.list xs) 1).toNat) ⟨0, rfl, Nat.zero_le _, by simp⟩ ?_
  intro xs hxs hJ
  obtain ⟨n, rfl, hle, hno⟩ := hJ
  clear hxs
  rcases hx : l[n]? with _ | x
  · have hge := ge_none hx
    have hlt : ¬ ((n : Int) < l.length) := by omega
    have e : n = l.length := by omega
    subst e
    rw [List.take_length] at hno
    have : b ∉ l := fun h => hno b h rfl
    simp [toI_int, this]
  · have hlt := lt_some hx
    have hlt' : (n : Int) < l.length := by omega
    have hxm := List.mem_of_getElem? hx
    have hw1 : IntKind.wrap .i64 ((n : Int) + 1) = (n : Int) + 1 := wrap64 (by omega) (by omega)
    have ht : l.take (n + 1) = l.take n ++ [x] := by rw [List.take_add_one, hx, Option.toList_some]
    simp [toI_int, hx, hlt', hw1, Nat.not_le.2 hlt]
    refine ⟨fun h => h ▸ hxm, fun h => ⟨⟨n + 1, by simp, hlt, ?_⟩, ?_⟩⟩
    · intro y hy
      rw [ht] at hy
      rcases List.mem_append.1 hy with hy | hy
      · exact hno y hy
      · rw [List.mem_singleton] at hy; rw [hy]; exact h
    · show l.length - ((n : Int) + 1).toNat < l.length - (n : Int).toNat
      omega
theorem con19 : Con Try.prog pre phi tb19 := con_cons c19 con8

theorem c37 : PureFn Try.prog 37 s37 (pre 37) (phi 37) := by
  refine pureFn_auto (given := []) mix con19 Try.func37 (by kernel_rfl) (v := vc37) (by kernel_rfl) ?_
  intro ds h hp
  obtain ⟨_, _, rfl, gl, rfl⟩ := h
  obtain ⟨l, rfl, hl, hkl⟩ := intsD gl

  have hR : phi 37 [.list (l.map (D.int .i64))] = .bool (risB 0 l) := by simp [phi, intsOf_list]
  simp [vc37, vh_obl, vh_call, vh_room, vh_branch, vh_loop, vh_again, vh_ret, updV, den, U.den, B.den, upd, condB, toL_list, toL_agg, toL_tup, toL_ptr, toL_fn, toI_int, toB_bool, List.getElem?_map, Option.map_some, Option.getD_some, List.length_map, pre, hR]
  obtain ⟨J, hJd⟩ : ∃ J : List D → Prop, ∀ xs, J xs ↔ ∃ n : Nat, xs = [.bool false, .int .i64 n] ∧ n ≤ l.length ∧ risB (lastI 0 (l.take n)) (l.drop n) = risB 0 l := ⟨_, fun _ => Iff.rfl⟩
  obtain ⟨M, hMd⟩ : ∃ M : List D → Nat, ∀ xs, M xs = l.length - (I (.list xs) 1).toNat := ⟨_, fun _ => rfl⟩
  refine LoopOk.intro J M ((hJd _).2 ⟨0, rfl, Nat.zero_le _, by simp [lastI]⟩) ?_
  intro xs hxs hJ
  obtain ⟨n, rfl, hle, hf⟩ := (hJd _).1 hJ
  clear hJ
  clear hxs
  rcases hx : l[n]? with _ | x
  · have hge := ge_none hx
    have hlt : ¬ ((n : Int) < l.length) := by omega
    rw [List.drop_of_length_le hge, risB] at hf
    simp [toI_int, hlt, ← hf]
  · have hlt := lt_some hx
    have hlt' : (n : Int) < l.length := by omega
    have hxm := List.mem_of_getElem? hx
    have hw1 : IntKind.wrap .i64 ((n : Int) + 1) = (n : Int) + 1 := wrap64 (by omega) (by omega)
    have ht : l.take (n + 1) = l.take n ++ [x] := by rw [List.take_add_one, hx, Option.toList_some]
    have hlast : lastI 0 (l.take (n + 1)) = x := by rw [ht, lastI_append]; rfl
    obtain ⟨p, hp⟩ : ∃ p, p = lastI 0 (l.take n) := ⟨_, rfl⟩
    rw [← hp, drop_some hx, risB] at hf
    have hnext : 1 ≤ x → x ≤ 5 → p < x → J [.bool false, .int .i64 ((n : Int) + 1)] ∧ M [.bool false, .int .i64 ((n : Int) + 1)] < M [.bool false, .int .i64 (n : Int)] := by
      intro h1 h2 h3
      refine ⟨(hJd _).2 ⟨n + 1, rfl, hlt, ?_⟩, ?_⟩
      · rw [hlast, ← hf]; simp [h1, h2, h3]
      · rw [hMd, hMd]
        show l.length - ((n : Int) + 1).toNat < l.length - (n : Int).toNat
        omega
    have hbad : ¬ (1 ≤ x ∧ x ≤ 5 ∧ p < x) → risB 0 l = false := by
      intro hc
      rw [← hf]
      have : (decide (1 ≤ x) && decide (x ≤ 5) && decide (p < x)) = false := by
        rw [Bool.eq_false_iff]; intro h
        simp only [Bool.and_eq_true, decide_eq_true_eq] at h
        exact hc ⟨h.1.1, h.1.2, h.2⟩
      rw [this, Bool.false_and]
    by_cases hn : n = 0
    · have hp0 : p = 0 := by rw [hp, hn]; rfl
      have hnp : ¬ 0 < n := by omega
      simp [toI_int, hx, hlt', hw1, Nat.not_le.2 hlt, hnp]
      refine ⟨fun h => hbad (by omega), fun h1 h2 => hnext h1 h2 (by omega)⟩
    · obtain ⟨y, hy⟩ : ∃ y, l[n - 1]? = some y := ⟨_, List.getElem?_eq_getElem (by omega)⟩
      have hpy : p = y := by
        rw [hp]
        have e : n = n - 1 + 1 := by omega
        rw [e, List.take_add_one, hy, Option.toList_some, lastI_append]; rfl
      have hwm : IntKind.wrap .i64 ((n : Int) - 1) = ((n - 1 : Nat) : Int) := by rw [wrap64 (by omega) (by omega)]; omega
      have hltm : ((n - 1 : Nat) : Int) < l.length := by omega
      have hnp : 0 < n := by omega
      simp [toI_int, hx, hy, hlt', hw1, hwm, hltm, Nat.not_le.2 hlt, hnp]
      exact ⟨fun h => hbad (by omega), fun h1 h2 h3 => hnext h1 h2 (by omega)⟩
theorem con37 : Con Try.prog pre phi tb37 := con_cons c37 con19

theorem c21 : PureFn Try.prog 21 s21 (pre 21) (phi 21) := by
  refine pureFn_auto (given := []) mix con37 Try.func21 (by kernel_rfl) (v := vc21) (by kernel_rfl) ?_
  intro ds h hp
  obtain ⟨_, _, rfl, ga, rfl⟩ := h
  obtain ⟨va, la, rfl, hva, hkva, hla, hkla⟩ := confD ga

  simp [vc21, vh_obl, vh_call, vh_room, vh_branch, vh_loop, vh_again, vh_ret, updV, den, U.den, B.den, upd, condB, toL_list, toL_agg, toL_tup, toL_ptr, toL_fn, toI_int, toB_bool, List.getElem?_map, Option.map_some, Option.getD_some, List.length_map, pre, hRisR, hMayR]
  refine ⟨fun h => ?_, fun h1 h2 h3 => ?_⟩
  · simp only [mayC, Bool.and_eq_false_iff]
    rcases h with (h | h) | h
    · exact .inl (.inl (.inl h))
    · exact .inl (.inl (.inr h))
    · exact .inl (.inr (by simp; exact List.eq_nil_of_length_eq_zero (by omega)))
  have hne : va ≠ [] := by rintro rfl; simp at h3
  have hm : mayC va la = decide (∀ x ∈ la, x ∉ va) := by simp [mayC, h1, h2, hne]
  obtain ⟨J, hJd⟩ : ∃ J : List D → Prop, ∀ xs, J xs ↔ ∃ n : Nat, xs = [.bool false, .int .i64 n] ∧ 1 ≤ n ∧ n ≤ 6 ∧ ∀ y : Int, 1 ≤ y → y < n → ¬ (y ∈ va ∧ y ∈ la) := ⟨_, fun _ => Iff.rfl⟩
  obtain ⟨M, hMd⟩ : ∃ M : List D → Nat, ∀ xs, M xs = 6 - (I (.list xs) 1).toNat := ⟨_, fun _ => rfl⟩
  refine LoopOk.intro J M ((hJd _).2 ⟨1, rfl, Nat.le_refl _, by omega, fun y h1 h2 => by omega⟩) ?_
  intro xs hxs hJ
  obtain ⟨n, rfl, h1n, hle, hno⟩ := (hJd _).1 hJ
  clear hJ hxs
  by_cases hn : n = 6
  · subst hn
    have : ∀ x ∈ la, x ∉ va := fun x hx hv => hno x (risB_mem h2 x hx).1 (by have := (risB_mem h2 x hx).2; omega) ⟨hv, hx⟩
    simp [toI_int, hm]
    exact this
  · have hlt' : (n : Int) ≤ 5 := by omega
    have hw1 : IntKind.wrap .i64 ((n : Int) + 1) = (n : Int) + 1 := wrap64 (by omega) (by omega)
    have hn5 : ¬ (5 : Int) < n := by omega
    simp [toI_int, toB_bool, hlt', hw1, hInR, hn5, hm]
    refine ⟨fun a1 a2 => ⟨n, a2, a1⟩, fun a1 => ⟨(hJd _).2 ⟨n + 1, rfl, by omega, by omega, fun y b1 b2 => ?_⟩, ?_⟩⟩
    · by_cases hy : y = n
      · subst hy; exact fun h => a1 h.1 h.2
      · exact hno y b1 (by omega)
    · rw [hMd, hMd]
      show 6 - ((n : Int) + 1).toNat < 6 - (n : Int).toNat
      omega
theorem con21 : Con Try.prog pre phi tb21 := con_cons c21 con37

theorem c28 : PureFn Try.prog 28 s28 (pre 28) (phi 28) := by
  refine pureFn_auto (given := []) mix con21 Try.func28 (by kernel_rfl) (v := vc28) (by kernel_rfl) ?_
  intro ds h hp
  obtain ⟨_, _, rfl, ga, _, _, rfl, gb, rfl⟩ := h
  obtain ⟨a, rfl, ha, hka⟩ := intsD ga
  obtain ⟨b, rfl, hb, hkb⟩ := intsD gb

  have hR : phi 28 [.list (a.map (D.int .i64)), .list (b.map (D.int .i64))] = .bool (decide (a = b)) := by simp [phi, intsOf_list]
  simp [vc28, vh_obl, vh_call, vh_room, vh_branch, vh_loop, vh_again, vh_ret, updV, den, U.den, B.den, upd, condB, toL_list, toL_agg, toL_tup, toL_ptr, toL_fn, toI_int, toB_bool, List.getElem?_map, Option.map_some, Option.getD_some, List.length_map, pre, hR]
  refine ⟨fun h => ?_, fun h => ?_⟩
  · intro e; exact h (by rw [e])
  refine LoopOk.intro (fun xs => ∃ n : Nat, xs = [.bool false, .int .i64 n] ∧ n ≤ a.length ∧ a.take n = b.take n) (fun xs => a.length - (I (.list xs) 1).toNat) ⟨0, rfl, Nat.zero_le _, by simp⟩ ?_
  intro xs hxs hJ
  obtain ⟨n, rfl, hle, hno⟩ := hJ
  clear hxs
  rcases hx : a[n]? with _ | x
  · have hge := ge_none hx
    have hlt : ¬ ((n : Int) < a.length) := by omega
    have e : n = a.length := by omega
    subst e
    rw [List.take_length, List.take_of_length_le (by omega)] at hno
    simp [toI_int, hno]
  · have hlt := lt_some hx
    have hlt' : (n : Int) < a.length := by omega
    have hxm := List.mem_of_getElem? hx
    have hw1 : IntKind.wrap .i64 ((n : Int) + 1) = (n : Int) + 1 := wrap64 (by omega) (by omega)
    obtain ⟨y, hy⟩ : ∃ y, b[n]? = some y := ⟨_, List.getElem?_eq_getElem (by omega)⟩
    have ht : a.take (n + 1) = a.take n ++ [x] := by rw [List.take_add_one, hx, Option.toList_some]
    have ht2 : b.take (n + 1) = b.take n ++ [y] := by rw [List.take_add_one, hy, Option.toList_some]
    have hltb : (n : Int) < b.length := by omega
    simp [toI_int, hx, hy, hlt', hltb, hw1, Nat.not_le.2 hlt]
    refine ⟨fun hne e => ?_, fun hxy => ⟨⟨n + 1, by simp, hlt, by rw [ht, ht2, hno, hxy]⟩, ?_⟩⟩
    · rw [e, hy] at hx; injection hx with hx; exact hne hx.symm
    · show a.length - ((n : Int) + 1).toNat < a.length - (n : Int).toNat
      omega
theorem con28 : Con Try.prog pre phi tb28 := con_cons c28 con21

theorem c10 : PureFn Try.prog 10 s10 (pre 10) (phi 10) := by
  refine pureFn_auto (given := []) mix con28 Try.func10 (by kernel_rfl) (v := vc10) (by kernel_rfl) ?_
  intro ds h hp
  obtain ⟨_, _, rfl, ga, _, _, rfl, gb, rfl⟩ := h
  obtain ⟨va, la, rfl, hva, hkva, hla, hkla⟩ := confD ga
  obtain ⟨vb, lb, rfl, hvb, hkvb, hlb, hklb⟩ := confD gb

  simp [vc10, vh_obl, vh_call, vh_room, vh_branch, vh_loop, vh_again, vh_ret, updV, den, U.den, B.den, upd, condB, toL_list, toL_agg, toL_tup, toL_ptr, toL_fn, toI_int, toB_bool, List.getElem?_map, Option.map_some, Option.getD_some, List.length_map, pre, hEqR, hSamR]
theorem con10 : Con Try.prog pre phi tb10 := con_cons c10 con28

theorem c27 : PureFn Try.prog 27 s27 (pre 27) (phi 27) := by
  refine pureFn_auto (given := []) mix con10 Try.func27 (by kernel_rfl) (v := vc27) (by kernel_rfl) ?_
  intro ds h hp
  obtain ⟨_, _, rfl, gl, _, _, rfl, gb, rfl⟩ := h
  obtain ⟨l, rfl, hl, hkl⟩ := intsD gl
  obtain ⟨b, rfl, hb⟩ := has_int.1 gb
  rw [inK64] at hb

  replace hp : l.length * 8 ≤ 140737488355320 := by
    have h0 : (intsOf (.list (l.map (D.int .i64)))).length * 8 ≤ 140737488355320 := hp
    rwa [intsOf_list] at h0
  simp [vc27, vh_obl, vh_call, vh_room, vh_branch, vh_loop, vh_again, vh_ret, updV, den, U.den, B.den, upd, condB, toL_list, toL_agg, toL_tup, toL_ptr, toL_fn, toI_int, toB_bool, List.getElem?_map, Option.map_some, Option.getD_some, List.length_map, pre, hPut]
  obtain ⟨J, hJd⟩ : ∃ J : List D → Prop, ∀ xs, J xs ↔ ∃ n : Nat, xs = [.int .i64 n] ∧ n ≤ l.length ∧ ∀ y ∈ l.take n, y < b := ⟨_, fun _ => Iff.rfl⟩
  obtain ⟨M, hMd⟩ : ∃ M : List D → Nat, ∀ xs, M xs = l.length - (I (.list xs) 0).toNat := ⟨_, fun _ => rfl⟩
  refine LoopOk.intro J M ((hJd _).2 ⟨0, rfl, Nat.zero_le _, by simp⟩) ?_
  intro xs hxs hJ
  obtain ⟨n, rfl, hle, hno⟩ := (hJd _).1 hJ
  clear hJ
  have hpu := putF_at hle hno
  clear hxs
  rcases hx : l[n]? with _ | x
  · have hge := ge_none hx
    have hlt : ¬ ((n : Int) < l.length) := by omega
    have e : n = l.length := by omega
    subst e
    rw [hx] at hpu
    simp [toI_int, hlt, hpu]
    have hL : ∀ n : Nat, n ≤ 140737488355328 → n ≤ maxLen := fun n h => Nat.le_trans h (by decide)
    exact ⟨⟨hL _ (by omega), by omega⟩, ⟨hL _ (by omega), by omega⟩, by rw [List.take_of_length_le (by simp)]⟩
  · have hlt := lt_some hx
    have hlt' : (n : Int) < l.length := by omega
    have hxm := List.mem_of_getElem? hx
    have hw1 : IntKind.wrap .i64 ((n : Int) + 1) = (n : Int) + 1 := wrap64 (by omega) (by omega)
    have ht : l.take (n + 1) = l.take n ++ [x] := by rw [List.take_add_one, hx, Option.toList_some]
    rw [hx] at hpu
    simp only at hpu
    have hL : ∀ n : Nat, n ≤ 140737488355328 → n ≤ maxLen := fun n h => Nat.le_trans h (by decide)
    by_cases h1 : x < b
    · simp [toI_int, hx, hlt', hw1, Nat.not_le.2 hlt, h1, Int.not_le.2 h1]
      refine ⟨(hJd _).2 ⟨n + 1, rfl, hlt, ?_⟩, ?_⟩
      · intro y hy
        rw [ht] at hy
        rcases List.mem_append.1 hy with hy | hy
        · exact hno y hy
        · rw [List.mem_singleton] at hy; rw [hy]; exact h1
      · rw [hMd, hMd]
        show l.length - ((n : Int) + 1).toNat < l.length - (n : Int).toNat
        omega
    · by_cases h2 : x = b
      · rw [if_neg h1, if_pos h2] at hpu
        subst h2
        simp [toI_int, hx, hlt', hw1, Nat.not_le.2 hlt, hpu]
      · rw [if_neg h1, if_neg h2] at hpu
        simp [toI_int, hx, hlt', hw1, Nat.not_le.2 hlt, h1, h2, hpu, Int.not_lt.1 h1]
        exact ⟨hle, ⟨hL _ (by omega), by omega⟩, ⟨hL _ (by omega), by omega⟩, hle, ⟨hL _ (by omega), by omega⟩, by rw [List.take_of_length_le (by simp)]⟩
theorem con27 : Con Try.prog pre phi tb27 := con_cons c27 con10

theorem c25 : PureFn Try.prog 25 s25 (pre 25) (phi 25) := by
  refine pureFn_auto (given := [(3, ⟨[(3, 0)], [], []⟩), (7, ⟨[(3, 0)], [], []⟩)]) mix con27 Try.func25 (by kernel_rfl) (v := vc25) (by kernel_rfl) ?_
  intro ds h hp
  obtain ⟨_, _, rfl, ga, rfl⟩ := h
  obtain ⟨va, la, rfl, hva, hkva, hla, hkla⟩ := confD ga

  replace hp : (va.length + la.length) * 8 ≤ 140737488355320 := by
    have h0 : ((vo (.agg [.list (va.map (D.int .i64)), .list (la.map (D.int .i64))])).length + (lr (.agg [.list (va.map (D.int .i64)), .list (la.map (D.int .i64))])).length) * 8 ≤ 140737488355320 := hp
    rwa [vo_cf, lr_cf] at h0
  simp [vc25, vh_obl, vh_call, vh_room, vh_branch, vh_loop, vh_again, vh_ret, updV, den, U.den, B.den, upd, condB, toL_list, toL_agg, toL_tup, toL_ptr, toL_fn, toI_int, toB_bool, List.getElem?_map, Option.map_some, Option.getD_some, List.length_map, pre, hMemR]
  obtain ⟨J, hJd⟩ : ∃ J : List D → Prop, ∀ xs, J xs ↔ ∃ (n : Nat) (o : List Int), xs = [.list (o.map (D.int .i64)), .int .i64 n] ∧ n ≤ va.length ∧ o = (va.take n).foldl putF [] ∧ o.length ≤ n := ⟨_, fun _ => Iff.rfl⟩
  obtain ⟨M, hMd⟩ : ∃ M : List D → Nat, ∀ xs, M xs = va.length - (I (.list xs) 1).toNat := ⟨_, fun _ => rfl⟩
  refine LoopOk.intro J M ((hJd _).2 ⟨0, [], rfl, Nat.zero_le _, rfl, Nat.le_refl _⟩) ?_
  intro xs hxs hJ
  obtain ⟨n, o, rfl, hle, ho, hol⟩ := (hJd _).1 hJ
  clear hJ
  clear hxs
  rcases hx : va[n]? with _ | x
  · have hge := ge_none hx
    have hlt : ¬ ((n : Int) < va.length) := by omega
    have e : n = va.length := by omega
    subst e
    rw [List.take_length] at ho
    have hol2 := hol
    simp [toI_int, toL_list]
    obtain ⟨J2, hJd2⟩ : ∃ J : List D → Prop, ∀ xs, J xs ↔ ∃ (n : Nat) (q : List Int), xs = [.list (q.map (D.int .i64)), .int .i64 n] ∧ n ≤ la.length ∧ q = (la.take n).foldl putF o ∧ q.length ≤ va.length + n := ⟨_, fun _ => Iff.rfl⟩
    obtain ⟨M2, hMd2⟩ : ∃ M : List D → Nat, ∀ xs, M xs = la.length - (I (.list xs) 1).toNat := ⟨_, fun _ => rfl⟩
    refine LoopOk.intro J2 M2 ((hJd2 _).2 ⟨0, o, rfl, Nat.zero_le _, rfl, hol2⟩) ?_
    intro xs hxs hJ
    clear hx hlt
    obtain ⟨k, q, rfl, hk, hq, hql⟩ := (hJd2 _).1 hJ
    clear hJ
    clear hxs
    rcases hx : la[k]? with _ | x
    · have hge := ge_none hx
      have hlt : ¬ ((k : Int) < la.length) := by omega
      have e : k = la.length := by omega
      subst e
      rw [List.take_length] at hq
      simp [toI_int, toL_list, hq, ho, rmemF]
    · have hlt := lt_some hx
      have hlt' : (k : Int) < la.length := by omega
      have hxm := List.mem_of_getElem? hx
      have hw1 : IntKind.wrap .i64 ((k : Int) + 1) = (k : Int) + 1 := wrap64 (by omega) (by omega)
      have ht : (la.take (k + 1)).foldl putF o = putF q x := by rw [List.take_add_one, hx, Option.toList_some, List.foldl_append, hq]; rfl
      have hpl := putF_len q x
      simp [toI_int, toL_list, hx, hlt', hw1, Nat.not_le.2 hlt, hPut, intsOf_list]
      refine ⟨by omega, (hJd2 _).2 ⟨k + 1, putF q x, rfl, hlt, ht.symm, by omega⟩, ?_⟩
      rw [hMd2, hMd2]
      show la.length - ((k : Int) + 1).toNat < la.length - (k : Int).toNat
      omega
  · have hlt := lt_some hx
    have hlt' : (n : Int) < va.length := by omega
    have hxm := List.mem_of_getElem? hx
    have hw1 : IntKind.wrap .i64 ((n : Int) + 1) = (n : Int) + 1 := wrap64 (by omega) (by omega)
    have ht : (va.take (n + 1)).foldl putF [] = putF o x := by rw [List.take_add_one, hx, Option.toList_some, List.foldl_append, ho]; rfl
    have hpl := putF_len o x
    simp [toI_int, toL_list, hx, hlt', hw1, Nat.not_le.2 hlt, hPut, intsOf_list]
    refine ⟨by omega, (hJd _).2 ⟨n + 1, putF o x, rfl, hlt, ht.symm, by omega⟩, ?_⟩
    rw [hMd, hMd]
    show va.length - ((n : Int) + 1).toNat < va.length - (n : Int).toNat
    omega
theorem con25 : Con Try.prog pre phi tb25 := con_cons c25 con27

theorem c15 : PureFn Try.prog 15 s15 (pre 15) (phi 15) := by
  refine pureFn_auto (given := []) mix con25 Try.func15 (by kernel_rfl) (v := vc15) (by kernel_rfl) ?_
  intro ds h hp
  obtain rfl := h
  have e1 : phi 8 [.agg [.list [.int .i64 1, .int .i64 2, .int .i64 3], .list []], .int .i64 4] = addF [1, 2, 3] [] 4 := hAdd [] [1, 2, 3] 4
  have e2 : phi 16 [.agg [.list [.int .i64 1, .int .i64 2, .int .i64 3], .list []]] = .bool (mayC [1, 2, 3] []) := hMay [] [1, 2, 3]
  have e3 : ∀ x y : Int, phi 31 [.agg [.list [.int .i64 1, .int .i64 2, .int .i64 3], .list []], .list [.int .i64 x, .int .i64 y]] = .bool (majF [1, 2, 3] [x, y]) := fun x y => hMaj [] [x, y] [1, 2, 3]
  have e4 : phi 32 [.agg [.list [.int .i64 1, .int .i64 2, .int .i64 3], .list []], .list [.int .i64 5, .int .i64 3, .int .i64 9]] = .int .i64 (agrF [1, 2, 3] [5, 3, 9]) := hAgr [] [5, 3, 9] [1, 2, 3]
  have hm : mayC [1, 2, 3] [] = true := by decide
  have ha : addF [1, 2, 3] [] 4 = .tup [cf [1, 2, 3] [4], .int .i64 0] := by
    have h4 : (4 : Int) ∉ memF [1, 2, 3] [] := by rw [mem_memF]; decide
    have hw : withF [] 4 = [4] := by simp [withF, sortI]
    have : addOk [1, 2, 3] [] 4 = true := by simp [addOk, hm, h4]
    unfold addF; rw [this, if_pos rfl, hw]
  have h13 : majF [1, 2, 3] [1, 3] = true := by decide
  have h14 : majF [1, 2, 3] [1, 4] = false := by decide
  have h5 : agrF [1, 2, 3] [5, 3, 9] = 5 := by
    have e : [1, 2, 3].map (valF [5, 3, 9]) = [5, 3, 9] := by decide
    have s : sortI [5, 3, 9] = [3, 5, 9] := sortI_eq (by decide) (by decide)
    unfold agrF; rw [e, s]; decide
  have hR : phi 15 [] = .bool true := rfl
  simp [vc15, vh_obl, vh_call, vh_room, vh_branch, vh_loop, vh_again, vh_ret, updV, den, U.den, B.den, upd, condB, toL_list, toL_agg, toL_tup, toL_ptr, toL_fn, toI_int, toB_bool, List.getElem?_map, Option.map_some, Option.getD_some, List.length_map, pre, e1, e2, e3, e4, hm, ha, h13, h14, h5, cf, hR]
theorem con15 : Con Try.prog pre phi tb15 := con_cons c15 con25

end Go.Proofs.Ytcmejjgjkjiggab
