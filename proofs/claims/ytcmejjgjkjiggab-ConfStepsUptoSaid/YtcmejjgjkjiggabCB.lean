/-
  What each function of this seat computes, and that it keeps to it (B).
-/
import Derived.Test.YtcmejjgjkjiggabCA
import Derived.Test.YtcmejjgjkjiggabL
set_option linter.unusedSimpArgs false
set_option linter.unusedVariables false
namespace Go.Proofs.Ytcmejjgjkjiggab
open Go Go.Eng Go.Proofs

theorem c33 : PureFn Try.prog 33 s33 (pre 33) (phi 33) := by
  refine pureFn_auto (given := []) mix con34 Try.func33 (by kernel_rfl) (v := vc33) (by kernel_rfl) ?_
  intro ds h hp
  obtain ⟨_, _, rfl, gl, rfl⟩ := h
  obtain ⟨l, rfl, hl, hkl⟩ := intsD gl

  have hR : phi 33 [.list (l.map (D.int .i64))] = .bool (risB 0 l) := by simp [phi, intsOf_list]
  simp [vc33, vh_obl, vh_call, vh_room, vh_branch, vh_loop, vh_again, vh_ret, updV, den, U.den, B.den, upd, condB, toL_list, toL_agg, toL_tup, toL_ptr, toL_fn, toI_int, toB_bool, List.getElem?_map, Option.map_some, Option.getD_some, List.length_map, pre, hR]
  obtain ⟨J, hJd⟩ : ∃ J : List D → Prop, ∀ xs, J xs ↔ ∃ n : Nat, xs = [.bool false, .int .i64 n] ∧ n ≤ l.length ∧ risB (lastI 0 (l.take n)) (l.drop n) = risB 0 l := ⟨_, fun _ => Iff.rfl⟩
  obtain ⟨M, hMd⟩ : ∃ M : List D → Nat, ∀ xs, M xs = l.length - (I (.list xs) 1).toNat := ⟨_, fun _ => rfl⟩
  refine LoopOk.intro J M ((hJd _).2 ⟨0, rfl, Nat.zero_le _, by simp [lastI]⟩) ?_
  intro xs hxs hJ
  obtain ⟨n, rfl, hle, hf⟩ := (hJd _).1 hJ
  clear hJ
  clear hxs
  rcases hx : l[n]? with _ | x
  · have hge := ge_none hx
    have hlt : ¬ ((n : Int) < l.length) := by omega
    rw [List.drop_of_length_le hge, risB] at hf
    simp [toI_int, hlt, ← hf]
  · have hlt := lt_some hx
    have hlt' : (n : Int) < l.length := by omega
    have hxm := List.mem_of_getElem? hx
    have hw1 : IntKind.wrap .i64 ((n : Int) + 1) = (n : Int) + 1 := wrap64 (by omega) (by omega)
    have ht : l.take (n + 1) = l.take n ++ [x] := by rw [List.take_add_one, hx, Option.toList_some]
    have hlast : lastI 0 (l.take (n + 1)) = x := by rw [ht, lastI_append]; rfl
    obtain ⟨p, hp⟩ : ∃ p, p = lastI 0 (l.take n) := ⟨_, rfl⟩
    rw [← hp, drop_some hx, risB] at hf
    have hnext : 1 ≤ x → x ≤ 5 → p < x → J [.bool false, .int .i64 ((n : Int) + 1)] ∧ M [.bool false, .int .i64 ((n : Int) + 1)] < M [.bool false, .int .i64 (n : Int)] := by
      intro h1 h2 h3
      refine ⟨(hJd _).2 ⟨n + 1, rfl, hlt, ?_⟩, ?_⟩
      · rw [hlast, ← hf]; simp [h1, h2, h3]
      · rw [hMd, hMd]
        show l.length - ((n : Int) + 1).toNat < l.length - (n : Int).toNat
        omega
    have hbad : ¬ (1 ≤ x ∧ x ≤ 5 ∧ p < x) → risB 0 l = false := by
      intro hc
      rw [← hf]
      have : (decide (1 ≤ x) && decide (x ≤ 5) && decide (p < x)) = false := by
        rw [Bool.eq_false_iff]; intro h
        simp only [Bool.and_eq_true, decide_eq_true_eq] at h
        exact hc ⟨h.1.1, h.1.2, h.2⟩
      rw [this, Bool.false_and]
    by_cases hn : n = 0
    · have hp0 : p = 0 := by rw [hp, hn]; rfl
      have hnp : ¬ 0 < n := by omega
      simp [toI_int, hx, hlt', hw1, Nat.not_le.2 hlt, hnp]
      refine ⟨fun h => hbad (by omega), fun h1 h2 => hnext h1 h2 (by omega)⟩
    · obtain ⟨y, hy⟩ : ∃ y, l[n - 1]? = some y := ⟨_, List.getElem?_eq_getElem (by omega)⟩
      have hpy : p = y := by
        rw [hp]
        have e : n = n - 1 + 1 := by omega
        rw [e, List.take_add_one, hy, Option.toList_some, lastI_append]; rfl
      have hwm : IntKind.wrap .i64 ((n : Int) - 1) = ((n - 1 : Nat) : Int) := by rw [wrap64 (by omega) (by omega)]; omega
      have hltm : ((n - 1 : Nat) : Int) < l.length := by omega
      have hnp : 0 < n := by omega
      simp [toI_int, hx, hy, hlt', hw1, hwm, hltm, Nat.not_le.2 hlt, hnp]
      exact ⟨fun h => hbad (by omega), fun h1 h2 h3 => hnext h1 h2 (by omega)⟩
theorem con33 : Con Try.prog pre phi tb33 := con_cons c33 con34

theorem c16 : PureFn Try.prog 16 s16 (pre 16) (phi 16) := by
  refine pureFn_auto (given := []) mix con33 Try.func16 (by kernel_rfl) (v := vc16) (by kernel_rfl) ?_
  intro ds h hp
  obtain ⟨_, _, rfl, ga, rfl⟩ := h
  obtain ⟨va, la, rfl, hva, hkva, hla, hkla⟩ := confD ga

  simp [vc16, vh_obl, vh_call, vh_room, vh_branch, vh_loop, vh_again, vh_ret, updV, den, U.den, B.den, upd, condB, toL_list, toL_agg, toL_tup, toL_ptr, toL_fn, toI_int, toB_bool, List.getElem?_map, Option.map_some, Option.getD_some, List.length_map, pre, hRis, hMay]
  refine ⟨fun h => ?_, fun h1 h2 h3 => ?_⟩
  · simp only [mayC, Bool.and_eq_false_iff]
    rcases h with (h | h) | h
    · exact .inl (.inl (.inl h))
    · exact .inl (.inl (.inr h))
    · exact .inl (.inr (by simp [h]))
  have hm : mayC va la = decide (∀ x ∈ la, x ∉ va) := by simp [mayC, h1, h2, h3]
  obtain ⟨J, hJd⟩ : ∃ J : List D → Prop, ∀ xs, J xs ↔ ∃ n : Nat, xs = [.bool false, .int .i64 n] ∧ n ≤ la.length ∧ ∀ y ∈ la.take n, y ∉ va := ⟨_, fun _ => Iff.rfl⟩
  obtain ⟨M, hMd⟩ : ∃ M : List D → Nat, ∀ xs, M xs = la.length - (I (.list xs) 1).toNat := ⟨_, fun _ => rfl⟩
  refine LoopOk.intro J M ((hJd _).2 ⟨0, rfl, Nat.zero_le _, by simp⟩) ?_
  intro xs hxs hJ
  obtain ⟨n, rfl, hle, hno⟩ := (hJd _).1 hJ
  clear hJ
  clear hxs
  rcases hx : la[n]? with _ | x
  · have hge := ge_none hx
    have hlt : ¬ ((n : Int) < la.length) := by omega
    have e : n = la.length := by omega
    subst e
    rw [List.take_length] at hno
    simp [toI_int, hm]
    exact hno
  · have hlt := lt_some hx
    have hlt' : (n : Int) < la.length := by omega
    have hxm := List.mem_of_getElem? hx
    have hw1 : IntKind.wrap .i64 ((n : Int) + 1) = (n : Int) + 1 := wrap64 (by omega) (by omega)
    have ht : la.take (n + 1) = la.take n ++ [x] := by rw [List.take_add_one, hx, Option.toList_some]
    simp [toI_int, toB_bool, hx, hlt', hw1, Nat.not_le.2 hlt, hCon, hm]
    refine ⟨fun h => ⟨x, hxm, h⟩, fun h => ⟨(hJd _).2 ⟨n + 1, rfl, hlt, ?_⟩, ?_⟩⟩
    · intro y hy
      rw [ht] at hy
      rcases List.mem_append.1 hy with hy | hy
      · exact hno y hy
      · rw [List.mem_singleton] at hy; rw [hy]; exact h
    · rw [hMd, hMd]
      show la.length - ((n : Int) + 1).toNat < la.length - (n : Int).toNat
      omega
theorem con16 : Con Try.prog pre phi tb16 := con_cons c16 con33

theorem c18 : PureFn Try.prog 18 s18 (pre 18) (phi 18) := by
  refine pureFn_auto (given := []) mix con16 Try.func18 (by kernel_rfl) (v := vc18) (by kernel_rfl) ?_
  intro ds h hp
  obtain ⟨_, _, rfl, ga, _, _, rfl, gb, rfl⟩ := h
  obtain ⟨va, la, rfl, hva, hkva, hla, hkla⟩ := confD ga
  obtain ⟨vb, lb, rfl, hvb, hkvb, hlb, hklb⟩ := confD gb

  simp [vc18, vh_obl, vh_call, vh_room, vh_branch, vh_loop, vh_again, vh_ret, updV, den, U.den, B.den, upd, condB, toL_list, toL_agg, toL_tup, toL_ptr, toL_fn, toI_int, toB_bool, List.getElem?_map, Option.map_some, Option.getD_some, List.length_map, pre, hEq, hSam]
theorem con18 : Con Try.prog pre phi tb18 := con_cons c18 con16

theorem c17 : PureFn Try.prog 17 s17 (pre 17) (phi 17) := by
  refine pureFn_auto (given := []) mix con18 Try.func17 (by kernel_rfl) (v := vc17) (by kernel_rfl) ?_
  intro ds h hp
  obtain ⟨_, _, rfl, ga, _, _, rfl, gb, rfl⟩ := h
  obtain ⟨va, la, rfl, hva, hkva, hla, hkla⟩ := confD ga
  obtain ⟨b, rfl, hb⟩ := has_int.1 gb
  rw [inK64] at hb

  simp [vc17, vh_obl, vh_call, vh_room, vh_branch, vh_loop, vh_again, vh_ret, updV, den, U.den, B.den, upd, condB, toL_list, toL_agg, toL_tup, toL_ptr, toL_fn, toI_int, toB_bool, List.getElem?_map, Option.map_some, Option.getD_some, List.length_map, pre, hCon, hVot]
theorem con17 : Con Try.prog pre phi tb17 := con_cons c17 con18

theorem c20 : PureFn Try.prog 20 s20 (pre 20) (phi 20) := by
  refine pureFn_auto (given := []) mix con17 Try.func20 (by kernel_rfl) (v := vc20) (by kernel_rfl) ?_
  intro ds h hp
  obtain ⟨_, _, rfl, ga, rfl⟩ := h
  obtain ⟨va, la, rfl, hva, hkva, hla, hkla⟩ := confD ga

  replace hp : (va.length + la.length) * 8 ≤ 140737488355328 := by
    have h0 : ((vo (.agg [.list (va.map (D.int .i64)), .list (la.map (D.int .i64))])).length + (lr (.agg [.list (va.map (D.int .i64)), .list (la.map (D.int .i64))])).length) * 8 ≤ 140737488355328 := hp
    rwa [vo_cf, lr_cf] at h0
  simp [vc20, vh_obl, vh_call, vh_room, vh_branch, vh_loop, vh_again, vh_ret, updV, den, U.den, B.den, upd, condB, toL_list, toL_agg, toL_tup, toL_ptr, toL_fn, toI_int, toB_bool, List.getElem?_map, Option.map_some, Option.getD_some, List.length_map, pre, hClo, hSor2, hCmp, hMem, memF]
  exact ⟨Nat.le_trans (show _ ≤ 140737488355328 by omega) (by decide), hp⟩
theorem con20 : Con Try.prog pre phi tb20 := con_cons c20 con17

theorem c31 : PureFn Try.prog 31 s31 (pre 31) (phi 31) := by
  refine pureFn_auto (given := []) mix con20 Try.func31 (by kernel_rfl) (v := vc31) (by kernel_rfl) ?_
  intro ds h hp
  obtain ⟨_, _, rfl, ga, _, _, rfl, gy, rfl⟩ := h
  obtain ⟨va, la, rfl, hva, hkva, hla, hkla⟩ := confD ga
  obtain ⟨y, rfl, hy, hky⟩ := intsD gy

  simp [vc31, vh_obl, vh_call, vh_room, vh_branch, vh_loop, vh_again, vh_ret, updV, den, U.den, B.den, upd, condB, toL_list, toL_agg, toL_tup, toL_ptr, toL_fn, toI_int, toB_bool, List.getElem?_map, Option.map_some, Option.getD_some, List.length_map, pre, hMaj]
  obtain ⟨J, hJd⟩ : ∃ J : List D → Prop, ∀ xs, J xs ↔ ∃ n : Nat, xs = [.int .i64 (cntF (va.take n) y), .int .i64 n] ∧ n ≤ va.length := ⟨_, fun _ => Iff.rfl⟩
  obtain ⟨M, hMd⟩ : ∃ M : List D → Nat, ∀ xs, M xs = va.length - (I (.list xs) 1).toNat := ⟨_, fun _ => rfl⟩
  refine LoopOk.intro J M ((hJd _).2 ⟨0, rfl, Nat.zero_le _⟩) ?_
  intro xs hxs hJ
  obtain ⟨n, rfl, hle⟩ := (hJd _).1 hJ
  clear hJ
  have hcl := cntF_le (va.take n) y
  rw [List.length_take] at hcl
  clear hxs
  rcases hx : va[n]? with _ | x
  · have hge := ge_none hx
    have hlt : ¬ ((n : Int) < va.length) := by omega
    have e : n = va.length := by omega
    subst e
    rw [List.take_length] at hcl ⊢
    have hw2 : IntKind.wrap .i64 (2 * (cntF va y : Int)) = 2 * (cntF va y : Int) := wrap64 (by omega) (by omega)
    simp [toI_int, hw2, majF]
  · have hlt := lt_some hx
    have hlt' : (n : Int) < va.length := by omega
    have hxm := List.mem_of_getElem? hx
    have hw1 : IntKind.wrap .i64 ((n : Int) + 1) = (n : Int) + 1 := wrap64 (by omega) (by omega)
    have hct := cntF_take (y := y) hx
    have hw2 : IntKind.wrap .i64 ((cntF (va.take n) y : Int) + 1) = (cntF (va.take n) y : Int) + 1 := wrap64 (by omega) (by omega)
    have hme : va.length - ((n : Int) + 1).toNat < va.length - (n : Int).toNat := by omega
    simp [toI_int, toB_bool, hx, hlt', hw1, hw2, Nat.not_le.2 hlt, hCon]
    refine ⟨fun h => ⟨(hJd _).2 ⟨n + 1, ?_, hlt⟩, ?_⟩, fun h => ⟨(hJd _).2 ⟨n + 1, ?_, hlt⟩, ?_⟩⟩
    · rw [hct, if_pos h]; rfl
    · rw [hMd, hMd]; exact hme
    · rw [hct, if_neg h]; rfl
    · rw [hMd, hMd]; exact hme
theorem con31 : Con Try.prog pre phi tb31 := con_cons c31 con20

theorem c32 : PureFn Try.prog 32 s32 (pre 32) (phi 32) := by
  refine pureFn_auto (given := []) mix con31 Try.func32 (by kernel_rfl) (v := vc32) (by kernel_rfl) ?_
  intro ds h hp
  obtain ⟨_, _, rfl, ga, _, _, rfl, gm, rfl⟩ := h
  obtain ⟨va, la, rfl, hva, hkva, hla, hkla⟩ := confD ga
  obtain ⟨m, rfl, hm, hkm⟩ := intsD gm

  simp [vc32, vh_obl, vh_call, vh_room, vh_branch, vh_loop, vh_again, vh_ret, updV, den, U.den, B.den, upd, condB, toL_list, toL_agg, toL_tup, toL_ptr, toL_fn, toI_int, toB_bool, List.getElem?_map, Option.map_some, Option.getD_some, List.length_map, pre, hAgr]
  obtain ⟨J, hJd⟩ : ∃ J : List D → Prop, ∀ xs, J xs ↔ ∃ n : Nat, xs = [.list (((va.take n).map (valF m)).map (D.int .i64)), .int .i64 n] ∧ n ≤ va.length := ⟨_, fun _ => Iff.rfl⟩
  obtain ⟨M, hMd⟩ : ∃ M : List D → Nat, ∀ xs, M xs = va.length - (I (.list xs) 1).toNat := ⟨_, fun _ => rfl⟩
  refine LoopOk.intro J M ((hJd _).2 ⟨0, rfl, Nat.zero_le _⟩) ?_
  intro xs hxs hJ
  obtain ⟨n, rfl, hle⟩ := (hJd _).1 hJ
  clear hJ
  clear hxs
  rcases hx : va[n]? with _ | x
  · have hge := ge_none hx
    have hlt : ¬ ((n : Int) < va.length) := by omega
    have e : n = va.length := by omega
    subst e
    rw [List.take_length]
    cases hva : va with
    | nil => simp [toI_int, toL_list, agrF]
    | cons q r =>
      rw [← hva]
      have hlen := valF_len va m
      have hpos : 0 < va.length := by rw [hva]; simp
      have hw2 : IntKind.wrap .i64 ((va.length : Int) - 1) = ((va.length - 1 : Nat) : Int) := by rw [wrap64 (by omega) (by omega)]; omega
      have hq : Int.tdiv ((va.length - 1 : Nat) : Int) 2 = (((va.length - 1) / 2 : Nat) : Int) := by rw [Int.tdiv_eq_ediv_of_nonneg (by omega)]; omega
      have hw3 : IntKind.wrap .i64 (((va.length - 1) / 2 : Nat) : Int) = (((va.length - 1) / 2 : Nat) : Int) := wrap64 (by omega) (by omega)
      have hne : va ≠ [] := by rw [hva]; simp
      obtain ⟨z, hz⟩ : ∃ z, (sortI (va.map (valF m)))[(va.length - 1) / 2]? = some z := ⟨_, List.getElem?_eq_getElem (by rw [hlen]; omega)⟩
      have ha : agrF va m = z := by unfold agrF; rw [if_neg hne, List.getD_eq_getElem?_getD, hz]; rfl
      have hlt3 : (((va.length - 1) / 2 : Nat) : Int) < va.length := by omega
      simp [-List.map_map, -Int.natCast_ediv, toI_int, toL_list, hSor, hlen, hw2, hq, hw3, hz, ha, hne]
      omega
  · have hlt := lt_some hx
    have hlt' : (n : Int) < va.length := by omega
    have hxm := List.mem_of_getElem? hx
    have hw1 : IntKind.wrap .i64 ((n : Int) + 1) = (n : Int) + 1 := wrap64 (by omega) (by omega)
    have hct : (va.take (n + 1)).map (valF m) = (va.take n).map (valF m) ++ [valF m x] := by rw [List.take_add_one, hx, Option.toList_some, List.map_append]; rfl
    have hme : va.length - ((n : Int) + 1).toNat < va.length - (n : Int).toNat := by omega
    have hag : ∀ q : Int, q = valF m x → J [.list (((va.map (valF m)).map (D.int .i64)).take n ++ [.int .i64 q]), .int .i64 ((n : Int) + 1)] ∧ M [.list (((va.map (valF m)).map (D.int .i64)).take n ++ [.int .i64 q]), .int .i64 ((n : Int) + 1)] < M [.list (((va.map (valF m)).map (D.int .i64)).take n), .int .i64 (n : Int)] := by
      rintro q rfl
      refine ⟨(hJd _).2 ⟨n + 1, ?_, hlt⟩, ?_⟩
      · rw [hct, List.map_append, ← List.map_take, ← List.map_take]; rfl
      · rw [hMd, hMd]; exact hme
    have hroom : (min n va.length + 1) ≤ maxLen ∧ (min n va.length + 1) * 8 ≤ 140737488355328 := ⟨Nat.le_trans (show _ ≤ 140737488355328 by omega) (by decide), by omega⟩
    by_cases hc : 1 ≤ x ∧ x ≤ m.length
    · have hw2 : IntKind.wrap .i64 (x - 1) = x - 1 := wrap64 (by omega) (by omega)
      obtain ⟨y, hy⟩ : ∃ y, m[(x - 1).toNat]? = some y := ⟨_, List.getElem?_eq_getElem (by omega)⟩
      have hv : valF m x = if 0 < y then y else 0 := by unfold valF; rw [if_pos hc, List.getD_eq_getElem?_getD, hy]; rfl
      have hc1 : (0 : Int) ≤ x - 1 := by omega
      have hc2 : x - 1 < (m.length : Int) := by omega
      have hy' : m[x.toNat - 1]? = some y := by rw [show x.toNat - 1 = (x - 1).toNat by omega]; exact hy
      simp [-List.map_map, toI_int, toL_list, hx, hlt', hw1, hw2, hy', hc.1, hc.2, hc1, hc2, Nat.not_le.2 hlt]
      exact ⟨⟨hroom, hag _ hv.symm⟩, fun hq => by omega⟩
    · have hv : valF m x = 0 := by unfold valF; rw [if_neg hc]
      simp [-List.map_map, toI_int, toL_list, hx, hlt', hw1, Nat.not_le.2 hlt]
      exact ⟨fun h1 h2 => absurd ⟨h1, h2⟩ hc, fun _ => ⟨hroom, hag 0 hv.symm⟩⟩
theorem con32 : Con Try.prog pre phi tb32 := con_cons c32 con31

end Go.Proofs.Ytcmejjgjkjiggab
