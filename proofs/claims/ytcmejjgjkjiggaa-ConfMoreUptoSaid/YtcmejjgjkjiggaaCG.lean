/-
  What each function of this seat computes, and that it keeps to it (G).
-/
import Derived.Test.YtcmejjgjkjiggaaCE
import Derived.Test.YtcmejjgjkjiggaaL
set_option linter.unusedSimpArgs false
set_option linter.unusedVariables false
namespace Go.Proofs.Ytcmejjgjkjiggaa
open Go Go.Eng Go.Proofs

theorem c12 : PureFn Try.prog 12 s12 (pre 12) (phi 12) := by
  refine pureFn_auto (given := []) mix con17 Try.func12 (by kernel_rfl) (v := vc12) (by kernel_rfl) ?_
  intro ds h hp
  obtain ⟨_, _, rfl, ga, _, _, rfl, gm, rfl⟩ := h
  obtain ⟨va, la, rfl, hva, hkva, hla, hkla⟩ := confD ga
  obtain ⟨m, rfl, hm, hkm⟩ := intsD gm

  simp [vc12, vh_obl, vh_call, vh_room, vh_branch, vh_loop, vh_again, vh_ret, updV, den, U.den, B.den, upd, condB, toL_list, toL_agg, toL_tup, toL_ptr, toL_fn, toI_int, toB_bool, List.getElem?_map, Option.map_some, Option.getD_some, List.length_map, pre, hAgrR]
  obtain ⟨J, hJd⟩ : ∃ J : List D → Prop, ∀ xs, J xs ↔ ∃ n : Nat, xs = [.int .i64 (ragP va m n), .int .i64 n] ∧ n ≤ m.length := ⟨_, fun _ => Iff.rfl⟩
  obtain ⟨M, hMd⟩ : ∃ M : List D → Nat, ∀ xs, M xs = m.length - (I (.list xs) 1).toNat := ⟨_, fun _ => rfl⟩
  refine LoopOk.intro J M ((hJd _).2 ⟨0, rfl, Nat.zero_le _⟩) ?_
  intro xs hxs hJ
  obtain ⟨n, rfl, hle⟩ := (hJd _).1 hJ
  clear hJ
  clear hxs
  rcases hx : m[n]? with _ | x
  · have hge := ge_none hx
    have hlt : ¬ ((n : Int) < m.length) := by omega
    have e : n = m.length := by omega
    subst e
    simp [toI_int]
  · have hlt := lt_some hx
    have hlt' : (n : Int) < m.length := by omega
    have hxm := List.mem_of_getElem? hx
    have hw1 : IntKind.wrap .i64 ((n : Int) + 1) = (n : Int) + 1 := wrap64 (by omega) (by omega)
    have hmn : m.getD n 0 = x := by rw [List.getD_eq_getElem?_getD, hx]; rfl
    have hme : m.length - ((n : Int) + 1).toNat < m.length - (n : Int).toNat := by omega
    have hag : ∀ q : Int, q = ragP va m (n + 1) → J [.int .i64 q, .int .i64 ((n : Int) + 1)] ∧ M [.int .i64 q, .int .i64 ((n : Int) + 1)] < M [.int .i64 (ragP va m n), .int .i64 (n : Int)] := by
      rintro q rfl
      exact ⟨(hJd _).2 ⟨n + 1, rfl, hlt⟩, by rw [hMd, hMd]; exact hme⟩
    have hrs : ragP va m (n + 1) = if majF va (yesF m x) && decide (ragP va m n < x) then x else ragP va m n := by rw [ragP, hmn]
    simp [toI_int, toL_list, hx, hlt', hw1, Nat.not_le.2 hlt]
    obtain ⟨J2, hJd2⟩ : ∃ J : List D → Prop, ∀ xs, J xs ↔ ∃ k : Nat, xs = [.list ((yesP m x k).map (D.int .i64)), .int .i64 (k + 1)] ∧ k ≤ m.length := ⟨_, fun _ => Iff.rfl⟩
    obtain ⟨M2, hMd2⟩ : ∃ M : List D → Nat, ∀ xs, M xs = m.length + 1 - (I (.list xs) 1).toNat := ⟨_, fun _ => rfl⟩
    refine LoopOk.intro J2 M2 ((hJd2 _).2 ⟨0, rfl, Nat.zero_le _⟩) ?_
    intro xs hxs hJ
    clear hxs
    obtain ⟨k, rfl, hk⟩ := (hJd2 _).1 hJ
    clear hJ
    have hyl := yesP_len m x k
    have hw2 : IntKind.wrap .i64 (k : Int) = k := wrap64 (by omega) (by omega)
    have hL : ∀ n : Nat, n ≤ 140737488355328 → n ≤ maxLen := fun n h => Nat.le_trans h (by decide)
    have hw3 : IntKind.wrap .i64 ((k : Int) + 1 + 1) = (k : Int) + 1 + 1 := wrap64 (by omega) (by omega)
    by_cases hkl : k = m.length
    · subst hkl
      have hle2 : ¬ ((m.length : Int) + 1 ≤ m.length) := by omega
      have hyf : yesP m x m.length = yesF m x := rfl
      simp [toI_int, toL_list, toB_bool, hle2, hyf, hMajR, hx, hlt', hw1]
      refine fun _ => ⟨fun h1 h2 => hag x ?_, fun h => hag _ ?_⟩
      · rw [hrs, if_pos (by simp [h1, h2])]
      · rw [hrs, if_neg]
        intro hc
        simp only [Bool.and_eq_true, decide_eq_true_eq] at hc
        have := h hc.1
        omega
    · obtain ⟨y, hy⟩ : ∃ y, m[k]? = some y := ⟨_, List.getElem?_eq_getElem (by omega)⟩
      have hmk : m.getD k 0 = y := by rw [List.getD_eq_getElem?_getD, hy]; rfl
      have hys := yesP_succ m x k
      rw [hmk] at hys
      have hle2 : (k : Int) + 1 ≤ m.length := by omega
      have hltk : (k : Int) < m.length := by omega
      have hag2 : ∀ a : List D, a = (yesP m x (k + 1)).map (D.int .i64) → J2 [.list a, .int .i64 ((k : Int) + 1 + 1)] ∧ M2 [.list a, .int .i64 ((k : Int) + 1 + 1)] < M2 [.list ((yesP m x k).map (D.int .i64)), .int .i64 ((k : Int) + 1)] := by
        rintro a rfl
        refine ⟨(hJd2 _).2 ⟨k + 1, by simp, by omega⟩, ?_⟩
        rw [hMd2, hMd2]
        show m.length + 1 - ((k : Int) + 1 + 1).toNat < m.length + 1 - ((k : Int) + 1).toNat
        omega
      simp [toI_int, toL_list, toB_bool, hle2, hy, hx, hlt', hw2, hw3, hltk]
      refine ⟨⟨fun h => ⟨⟨hL _ (by omega), by omega⟩, hag2 _ (by rw [hys, if_pos h]; simp)⟩, fun h => hag2 _ (by rw [hys, if_neg (by omega)]; simp)⟩, fun hq => by omega⟩
theorem con12 : Con Try.prog pre phi tb12 := con_cons c12 con17

theorem c13 : PureFn Try.prog 13 s13 (pre 13) (phi 13) := by
  refine pureFn_auto (given := []) mix con12 Try.func13 (by kernel_rfl) (v := vc13) (by kernel_rfl) ?_
  intro ds h hp
  obtain rfl := h
  have e1 : phi 26 [.agg [.list [.int .i64 1, .int .i64 2, .int .i64 3], .list []], .int .i64 4] = addF [1, 2, 3] [] 4 := hAdd [] [1, 2, 3] 4
  have e2 : phi 20 [.agg [.list [.int .i64 1, .int .i64 2, .int .i64 3], .list []]] = .bool (mayC [1, 2, 3] []) := hMay [] [1, 2, 3]
  have e3 : ∀ x y : Int, phi 9 [.agg [.list [.int .i64 1, .int .i64 2, .int .i64 3], .list []], .list [.int .i64 x, .int .i64 y]] = .bool (majF [1, 2, 3] [x, y]) := fun x y => hMaj [] [x, y] [1, 2, 3]
  have e4 : phi 11 [.agg [.list [.int .i64 1, .int .i64 2, .int .i64 3], .list []], .list [.int .i64 5, .int .i64 3, .int .i64 9]] = .int .i64 (agrF [1, 2, 3] [5, 3, 9]) := hAgr [] [5, 3, 9] [1, 2, 3]
  have hm : mayC [1, 2, 3] [] = true := by decide
  have ha : addF [1, 2, 3] [] 4 = .tup [cf [1, 2, 3] [4], .int .i64 0] := by
    have h4 : (4 : Int) ∉ memF [1, 2, 3] [] := by rw [mem_memF]; decide
    have hw : withF [] 4 = [4] := by simp [withF, sortI]
    have : addOk [1, 2, 3] [] 4 = true := by simp [addOk, hm, h4]
    unfold addF; rw [this, if_pos rfl, hw]
  have h13 : majF [1, 2, 3] [1, 3] = true := by decide
  have h14 : majF [1, 2, 3] [1, 4] = false := by decide
  have h5 : agrF [1, 2, 3] [5, 3, 9] = 5 := by
    have e : [1, 2, 3].map (valF [5, 3, 9]) = [5, 3, 9] := by decide
    have s : sortI [5, 3, 9] = [3, 5, 9] := sortI_eq (by decide) (by decide)
    unfold agrF; rw [e, s]; decide
  have hR : phi 13 [] = .bool true := rfl
  simp [vc13, vh_obl, vh_call, vh_room, vh_branch, vh_loop, vh_again, vh_ret, updV, den, U.den, B.den, upd, condB, toL_list, toL_agg, toL_tup, toL_ptr, toL_fn, toI_int, toB_bool, List.getElem?_map, Option.map_some, Option.getD_some, List.length_map, pre, e1, e2, e3, e4, hm, ha, h13, h14, h5, cf, hR]
theorem con13 : Con Try.prog pre phi tb13 := con_cons c13 con12

theorem c3 : PureFn Try.prog 3 s3 (pre 3) (phi 3) := by
  refine pureFn_auto (given := []) mix con13 Try.func3 (by kernel_rfl) (v := vc3) (by kernel_rfl) ?_
  intro ds h hp
  obtain ⟨_, _, rfl, ga, _, _, rfl, gy, _, _, rfl, gm, rfl⟩ := h
  obtain ⟨va, la, rfl, hva, hkva, hla, hkla⟩ := confD ga
  obtain ⟨y, rfl, hy, hky⟩ := intsD gy
  obtain ⟨m, rfl, hm, hkm⟩ := intsD gm

  simp [vc3, vh_obl, vh_call, vh_room, vh_branch, vh_loop, vh_again, vh_ret, updV, den, U.den, B.den, upd, condB, toL_list, toL_agg, toL_tup, toL_ptr, toL_fn, toI_int, toB_bool, List.getElem?_map, Option.map_some, Option.getD_some, List.length_map, pre, hMaj, hMajR, hAgr, hAgrR, hLiv, rag_eq]
  rfl
theorem con3 : Con Try.prog pre phi tb3 := con_cons c3 con13

theorem c4 : PureFn Try.prog 4 s4 (pre 4) (phi 4) := by
  refine pureFn_auto (given := []) mix con3 Try.func4 (by kernel_rfl) (v := vc4) (by kernel_rfl) ?_
  intro ds h hp
  obtain ⟨_, _, rfl, ga, _, _, rfl, gm, rfl⟩ := h
  obtain ⟨va, la, rfl, hva, hkva, hla, hkla⟩ := confD ga
  obtain ⟨m, rfl, hm, hkm⟩ := intsD gm

  have hR : phi 4 [.agg [.list (va.map (D.int .i64)), .list (la.map (D.int .i64))], .list (m.map (D.int .i64))] = .bool true := rfl
  obtain ⟨q1, q2⟩ := agrF_cases va m
  simp [vc4, vh_obl, vh_call, vh_room, vh_branch, vh_loop, vh_again, vh_ret, updV, den, U.den, B.den, upd, condB, toL_list, toL_agg, toL_tup, toL_ptr, toL_fn, toI_int, toB_bool, List.getElem?_map, Option.map_some, Option.getD_some, List.length_map, pre, hAgr, hR]
  generalize hn : agrF va m = t at *
  obtain ⟨J2, hJd2⟩ : ∃ J : List D → Prop, ∀ xs, J xs ↔ ∃ k : Nat, xs = [.list ((yesP m t k).map (D.int .i64)), .list ((yesP m (t + 1) k).map (D.int .i64)), .int .i64 (k + 1)] ∧ k ≤ m.length := ⟨_, fun _ => Iff.rfl⟩
  obtain ⟨M2, hMd2⟩ : ∃ M : List D → Nat, ∀ xs, M xs = m.length + 1 - (I (.list xs) 2).toNat := ⟨_, fun _ => rfl⟩
  refine LoopOk.intro J2 M2 ((hJd2 _).2 ⟨0, rfl, Nat.zero_le _⟩) ?_
  intro xs hxs hJ
  clear hxs
  obtain ⟨k, rfl, hk⟩ := (hJd2 _).1 hJ
  clear hJ
  have hyl := yesP_len m t k
  have hyl1 := yesP_len m (t + 1) k
  have hw2 : IntKind.wrap .i64 (k : Int) = k := wrap64 (by omega) (by omega)
  have hL : ∀ n : Nat, n ≤ 140737488355328 → n ≤ maxLen := fun n h => Nat.le_trans h (by decide)
  have hw3 : IntKind.wrap .i64 ((k : Int) + 1 + 1) = (k : Int) + 1 + 1 := wrap64 (by omega) (by omega)
  by_cases hkl : k = m.length
  · subst hkl
    have hle2 : ¬ ((m.length : Int) + 1 ≤ m.length) := by omega
    have hyf : yesP m t m.length = yesF m t := rfl
    have hyf1 : yesP m (t + 1) m.length = yesF m (t + 1) := rfl
    have hmore : majF va (yesF m (t + 1)) = false := by rw [maj_val (by omega), hn]; simp; omega
    have hhas : t = 0 ∨ majF va (yesF m t) = true := by
      rcases Int.lt_or_le 0 t with h | h
      · right; rw [maj_val h, hn]; simp
      · left; omega
    simp [toI_int, toL_list, toB_bool, hle2, hyf, hyf1, hMaj, hmore, hhas, hLiv, q1]
  · obtain ⟨y, hy⟩ : ∃ y, m[k]? = some y := ⟨_, List.getElem?_eq_getElem (by omega)⟩
    have hmk : m.getD k 0 = y := by rw [List.getD_eq_getElem?_getD, hy]; rfl
    have hys := yesP_succ m t k
    have hys1 := yesP_succ m (t + 1) k
    rw [hmk] at hys hys1
    have hle2 : (k : Int) + 1 ≤ m.length := by omega
    have hltk : (k : Int) < m.length := by omega
    have hag2 : ∀ a b : List D, a = (yesP m t (k + 1)).map (D.int .i64) → b = (yesP m (t + 1) (k + 1)).map (D.int .i64) → J2 [.list a, .list b, .int .i64 ((k : Int) + 1 + 1)] ∧ M2 [.list a, .list b, .int .i64 ((k : Int) + 1 + 1)] < M2 [.list ((yesP m t k).map (D.int .i64)), .list ((yesP m (t + 1) k).map (D.int .i64)), .int .i64 ((k : Int) + 1)] := by
      rintro a b rfl rfl
      refine ⟨(hJd2 _).2 ⟨k + 1, by simp, by omega⟩, ?_⟩
      rw [hMd2, hMd2]
      show m.length + 1 - ((k : Int) + 1 + 1).toNat < m.length + 1 - ((k : Int) + 1).toNat
      omega
    have hA1 : t ≤ y → (yesP m t k).map (D.int .i64) ++ [.int .i64 ((k : Int) + 1)] = (yesP m t (k + 1)).map (D.int .i64) := fun h => by rw [hys, if_pos h]; simp
    have hA0 : y < t → (yesP m t k).map (D.int .i64) = (yesP m t (k + 1)).map (D.int .i64) := fun h => by rw [hys, if_neg (by omega)]; simp
    have hB1 : t < y → (yesP m (t + 1) k).map (D.int .i64) ++ [.int .i64 ((k : Int) + 1)] = (yesP m (t + 1) (k + 1)).map (D.int .i64) := fun h => by rw [hys1, if_pos (by omega)]; simp
    have hB0 : y ≤ t → (yesP m (t + 1) k).map (D.int .i64) = (yesP m (t + 1) (k + 1)).map (D.int .i64) := fun h => by rw [hys1, if_neg (by omega)]; simp
    simp [toI_int, toL_list, toB_bool, hle2, hy, hw2, hw3, hltk]
    refine ⟨⟨fun h => ⟨⟨hL _ (by omega), by omega⟩, fun h' => ⟨⟨hL _ (by omega), by omega⟩, hag2 _ _ (hA1 h) (hB1 h')⟩, fun h' => hag2 _ _ (hA1 h) (hB0 h')⟩, fun h => ⟨fun h' => ⟨⟨hL _ (by omega), by omega⟩, hag2 _ _ (hA0 h) (hB1 h')⟩, fun h' => hag2 _ _ (hA0 h) (hB0 h')⟩⟩, fun hq => by omega⟩
theorem con4 : Con Try.prog pre phi tb4 := con_cons c4 con3

end Go.Proofs.Ytcmejjgjkjiggaa
