/-
  What each function of this seat computes, and that it keeps to it (A).
-/
import Derived.Test.YtcmejjgjkjiggabF
import Derived.Test.YtcmejjgjkjiggabL
set_option linter.unusedSimpArgs false
set_option linter.unusedVariables false
namespace Go.Proofs.Ytcmejjgjkjiggab
open Go Go.Eng Go.Proofs

theorem c38 : PureFn Try.prog 38 s38 (pre 38) (phi 38) := by
  refine pureFn_auto (given := []) mix (con_nil (Φ := phi) (Pre := pre)) Try.func38 (by kernel_rfl) (v := vc38) (by kernel_rfl) ?_
  intro ds h hp
  obtain ⟨_, _, rfl, gl, _, _, rfl, gb, rfl⟩ := h
  obtain ⟨l, rfl, hl, hkl⟩ := intsD gl
  obtain ⟨b, rfl, hb⟩ := has_int.1 gb
  rw [inK64] at hb

  have hR : phi 38 [.list (l.map (D.int .i64)), .int .i64 b] = .int .i64 (findF (fun y => y == b) l 0) := by simp [phi, intsOf_list, toI_int]
  simp [vc38, vh_obl, vh_call, vh_room, vh_branch, vh_loop, vh_again, vh_ret, updV, den, U.den, B.den, upd, condB, toL_list, toL_agg, toL_tup, toL_ptr, toL_fn, toI_int, toB_bool, List.getElem?_map, Option.map_some, Option.getD_some, List.length_map, pre, hR]
  refine LoopOk.intro (fun xs => ∃ n : Nat, xs = [.int .i64 0, .int .i64 n] ∧ n ≤ l.length ∧ findF (fun y => y == b) (l.drop n) n = findF (fun y => y == b) l 0) (fun xs => l.length - (I (.list xs) 1).toNat) ⟨0, rfl, Nat.zero_le _, by simp⟩ ?_
  intro xs hxs hJ
  obtain ⟨n, rfl, hle, hno⟩ := hJ
  clear hxs
  rcases hx : l[n]? with _ | x
  · have hge := ge_none hx
    have hlt : ¬ ((n : Int) < l.length) := by omega
    rw [List.drop_of_length_le hge, findF] at hno
    simp [toI_int, hlt, ← hno]
  · have hlt := lt_some hx
    have hlt' : (n : Int) < l.length := by omega
    have hxm := List.mem_of_getElem? hx
    have hw1 : IntKind.wrap .i64 ((n : Int) + 1) = (n : Int) + 1 := wrap64 (by omega) (by omega)
    rw [drop_some hx, findF] at hno
    simp [toI_int, hx, hlt', hw1, Nat.not_le.2 hlt]
    refine ⟨fun h => ?_, fun h => ⟨⟨n + 1, by simp, hlt, ?_⟩, ?_⟩⟩
    · rw [← hno, if_pos (by simp [h])]
    · rw [← hno, if_neg (by simp; exact fun e => h e.symm)]; congr 1
    · show l.length - ((n : Int) + 1).toNat < l.length - (n : Int).toNat
      omega
theorem con38 : Con Try.prog pre phi tb38 := con_cons c38 con_nil

theorem c22 : PureFn Try.prog 22 s22 (pre 22) (phi 22) := by
  refine pureFn_auto (given := []) mix con38 Try.func22 (by kernel_rfl) (v := vc22) (by kernel_rfl) ?_
  intro ds h hp
  obtain ⟨_, _, rfl, gl, _, _, rfl, gb, rfl⟩ := h
  obtain ⟨l, rfl, hl, hkl⟩ := intsD gl
  obtain ⟨b, rfl, hb⟩ := has_int.1 gb
  rw [inK64] at hb

  have hR : phi 22 [.list (l.map (D.int .i64)), .int .i64 b] = .bool (decide (b ∈ l)) := by simp [phi, intsOf_list, toI_int]
  have hI : phi 38 [.list (l.map (D.int .i64)), .int .i64 b] = .int .i64 (findF (fun y => y == b) l 0) := by simp [phi, intsOf_list, toI_int]
  simp [vc22, vh_obl, vh_call, vh_room, vh_branch, vh_loop, vh_again, vh_ret, updV, den, U.den, B.den, upd, condB, toL_list, toL_agg, toL_tup, toL_ptr, toL_fn, toI_int, toB_bool, List.getElem?_map, Option.map_some, Option.getD_some, List.length_map, pre, hR, hI]
  rcases findF_cases (fun y => y == b) l 0 with ⟨h1, h2⟩ | ⟨n, y, h1, h2, h3, _⟩
  · have : b ∉ l := fun h => by have := h2 b h; simp at this
    simp [h1, this]
  · have hm := List.mem_of_getElem? h2
    rw [beq_iff_eq] at h3; subst h3
    simp only [h1, hm, iff_true]; omega
theorem con22 : Con Try.prog pre phi tb22 := con_cons c22 con38

theorem c23 : PureFn Try.prog 23 s23 (pre 23) (phi 23) := clone_pure laysClone Try.func23 (by kernel_rfl)
theorem con23 : Con Try.prog pre phi tb23 := con_cons c23 con22

theorem c35 : PureFn Try.prog 35 s35 (pre 35) (phi 35) := sort_pure laysSort Try.func35 (by kernel_rfl)
theorem con35 : Con Try.prog pre phi tb35 := con_cons c35 con23

theorem c36 : PureFn Try.prog 36 s36 (pre 36) (phi 36) := compact_pure laysCompact Try.func36 (by kernel_rfl)
theorem con36 : Con Try.prog pre phi tb36 := con_cons c36 con35

theorem c34 : PureFn Try.prog 34 s34 (pre 34) (phi 34) := by
  refine pureFn_auto (given := []) mix con36 Try.func34 (by kernel_rfl) (v := vc34) (by kernel_rfl) ?_
  intro ds h hp
  obtain ⟨_, _, rfl, ga, _, _, rfl, gb, rfl⟩ := h
  obtain ⟨a, rfl, ha, hka⟩ := intsD ga
  obtain ⟨b, rfl, hb, hkb⟩ := intsD gb

  have hR : phi 34 [.list (a.map (D.int .i64)), .list (b.map (D.int .i64))] = .bool (decide (a = b)) := by simp [phi, intsOf_list]
  simp [vc34, vh_obl, vh_call, vh_room, vh_branch, vh_loop, vh_again, vh_ret, updV, den, U.den, B.den, upd, condB, toL_list, toL_agg, toL_tup, toL_ptr, toL_fn, toI_int, toB_bool, List.getElem?_map, Option.map_some, Option.getD_some, List.length_map, pre, hR]
  refine ⟨fun h => ?_, fun h => ?_⟩
  · intro e; exact h (by rw [e])
  refine LoopOk.intro (fun xs => ∃ n : Nat, xs = [.bool false, .int .i64 n] ∧ n ≤ a.length ∧ a.take n = b.take n) (fun xs => a.length - (I (.list xs) 1).toNat) ⟨0, rfl, Nat.zero_le _, by simp⟩ ?_
  intro xs hxs hJ
  obtain ⟨n, rfl, hle, hno⟩ := hJ
  clear hxs
  rcases hx : a[n]? with _ | x
  · have hge := ge_none hx
    have hlt : ¬ ((n : Int) < a.length) := by omega
    have e : n = a.length := by omega
    subst e
    rw [List.take_length, List.take_of_length_le (by omega)] at hno
    simp [toI_int, hno]
  · have hlt := lt_some hx
    have hlt' : (n : Int) < a.length := by omega
    have hxm := List.mem_of_getElem? hx
    have hw1 : IntKind.wrap .i64 ((n : Int) + 1) = (n : Int) + 1 := wrap64 (by omega) (by omega)
    obtain ⟨y, hy⟩ : ∃ y, b[n]? = some y := ⟨_, List.getElem?_eq_getElem (by omega)⟩
    have ht : a.take (n + 1) = a.take n ++ [x] := by rw [List.take_add_one, hx, Option.toList_some]
    have ht2 : b.take (n + 1) = b.take n ++ [y] := by rw [List.take_add_one, hy, Option.toList_some]
    have hltb : (n : Int) < b.length := by omega
    simp [toI_int, hx, hy, hlt', hltb, hw1, Nat.not_le.2 hlt]
    refine ⟨fun hne e => ?_, fun hxy => ⟨⟨n + 1, by simp, hlt, by rw [ht, ht2, hno, hxy]⟩, ?_⟩⟩
    · rw [e, hy] at hx; injection hx with hx; exact hne hx.symm
    · show a.length - ((n : Int) + 1).toNat < a.length - (n : Int).toNat
      omega
theorem con34 : Con Try.prog pre phi tb34 := con_cons c34 con36

end Go.Proofs.Ytcmejjgjkjiggab
