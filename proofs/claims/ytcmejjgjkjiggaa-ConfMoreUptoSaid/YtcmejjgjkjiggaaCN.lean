/-
  What each function of this seat computes, and that it keeps to it (N).
-/
import Derived.Test.YtcmejjgjkjiggaaCM
import Derived.Test.YtcmejjgjkjiggaaL
set_option linter.unusedSimpArgs false
set_option linter.unusedVariables false
namespace Go.Proofs.Ytcmejjgjkjiggaa
open Go Go.Eng Go.Proofs

theorem c5 : PureFn Try.prog 5 s5 (pre 5) (phi 5) := by
  refine pureFn_auto (given := [(1000000, {drop := [44]})]) mix con6 Try.func5 (by kernel_rfl) (v := vc5) (by kernel_rfl) ?_
  intro ds h hp
  obtain ⟨_, _, rfl, ga, _, _, rfl, gy, _, _, rfl, gm, rfl⟩ := h
  obtain ⟨va, la, rfl, hva, hkva, hla, hkla⟩ := confD ga
  obtain ⟨y, rfl, hy, hky⟩ := intsD gy
  obtain ⟨m, rfl, hm, hkm⟩ := intsD gm

  replace hp : wtL [.agg [.list (va.map (D.int .i64)), .list (la.map (D.int .i64))], .list (y.map (D.int .i64)), .list (m.map (D.int .i64))] ≤ 1048576 := hp
  rw [wt_conf, wt_list, wt_list] at hp
  have hL : ∀ n : Nat, n ≤ 140737488355328 → n ≤ maxLen := fun n h => Nat.le_trans h (by decide)
  have hR : phi 5 [.agg [.list (va.map (D.int .i64)), .list (la.map (D.int .i64))], .list (y.map (D.int .i64)), .list (m.map (D.int .i64))] = .bool true := rfl
  simp [vc5, vh_obl, vh_call, vh_room, vh_branch, vh_loop, vh_again, vh_ret, updV, den, U.den, B.den, upd, condB, toL_list, toL_agg, toL_tup, toL_ptr, toL_fn, toI_int, toB_bool, List.getElem?_map, Option.map_some, Option.getD_some, List.length_map, pre, hMaj, hAgr, hLiv, hR]
  obtain ⟨J, hJd⟩ : ∃ J : List D → Prop, ∀ xs, J xs ↔ ∃ n : Nat, xs = [.bool false, .int .i64 n] ∧ 1 ≤ n ∧ n ≤ 6 := ⟨_, fun _ => Iff.rfl⟩
  obtain ⟨M, hMd⟩ : ∃ M : List D → Nat, ∀ xs, M xs = 7 - (I (.list xs) 1).toNat := ⟨_, fun _ => rfl⟩
  refine LoopOk.intro J M ((hJd _).2 ⟨1, rfl, Nat.le_refl _, by omega⟩) ?_
  intro xs hxs hJ
  obtain ⟨n, rfl, h1n, hle⟩ := (hJd _).1 hJ
  clear hJ hxs
  have hw1 : IntKind.wrap .i64 ((n : Int) + 1) = (n : Int) + 1 := wrap64 (by omega) (by omega)
  have hw0 : IntKind.wrap .i64 ((n : Int) - 1) = (n : Int) - 1 := wrap64 (by omega) (by omega)
  have hMm : phi 9 [.agg [.list (va.map (D.int .i64)), .list (la.map (D.int .i64))], .list (y.map (D.int .i64) ++ [.int .i64 n])] = .bool (majF va (y ++ [(n : Int)])) := by
    have e : y.map (D.int .i64) ++ [D.int .i64 (n : Int)] = (y ++ [(n : Int)]).map (D.int .i64) := by simp
    rw [e, hMaj]
  have hmo : majF va y = true → majF va (y ++ [(n : Int)]) = true := majF_mono (fun s hs => List.mem_append_left _ hs)
  have hy1 : y.length ≤ maxLen ∧ y.length * 8 ≤ 140737488355328 := ⟨hL _ (by omega), by omega⟩
  have hy2 : y.length + 1 ≤ maxLen ∧ (y.length + 1) * 8 ≤ 140737488355328 := ⟨hL _ (by omega), by omega⟩
  have hm1 : m.length ≤ maxLen ∧ m.length * 8 ≤ 140737488355328 := ⟨hL _ (by omega), by omega⟩
  by_cases hn5 : n = 6
  · subst hn5
    simp [toI_int]
  · have hn5' : (n : Int) ≤ 5 := by omega
    have hag : J [.bool false, .int .i64 ((n : Int) + 1)] ∧ M [.bool false, .int .i64 ((n : Int) + 1)] < M [.bool false, .int .i64 (n : Int)] := by
      refine ⟨(hJd _).2 ⟨n + 1, rfl, by omega, by omega⟩, ?_⟩
      rw [hMd, hMd]
      show 7 - ((n : Int) + 1).toNat < 7 - (n : Int).toNat
      omega
    by_cases hnm : (n : Int) ≤ m.length
    · have hi : n - 1 < m.length := by omega
      obtain ⟨x, hx⟩ : ∃ x, m[n - 1]? = some x := ⟨_, List.getElem?_eq_getElem hi⟩
      have hxd : m.getD (n - 1) 0 = x := by rw [List.getD_eq_getElem?_getD, hx]; rfl
      have hkx := hkm x (List.mem_of_getElem? hx)
      have hb1 : 1 ≤ (n : Int) ∧ (n : Int) - 1 < m.length := by omega
      by_cases hbig : x < 1099511627776
      · have hw2 : IntKind.wrap .i64 (x + 1) = x + 1 := wrap64 (by omega) (by omega)
        have hA2 : phi 11 [.agg [.list (va.map (D.int .i64)), .list (la.map (D.int .i64))], .list (List.take (n - 1) (m.map (D.int .i64)) ++ .int .i64 (x + 1) :: List.drop (n - 1 + 1) (m.map (D.int .i64)))] = .int .i64 (agrF va (incF m (n - 1))) := by
          have e : List.take (n - 1) (m.map (D.int .i64)) ++ D.int .i64 (x + 1) :: List.drop (n - 1 + 1) (m.map (D.int .i64)) = (incF m (n - 1)).map (D.int .i64) := by
            unfold incF
            rw [hxd, List.map_append, List.map_cons, List.map_take, List.drop_drop, List.map_drop]
          rw [e, hAgr]
        have hge : agrF va m ≤ agrF va (incF m (n - 1)) := agrF_mono (incF_val hi)
        simp [toI_int, toB_bool, hn5', hw1, hw0, hMm, hy1, hy2, hm1, hnm, hx, hbig, hw2, hA2, hge, hag]
        exact ⟨hmo, fun _ => hb1⟩
      · simp [toI_int, toB_bool, hn5', hw1, hw0, hMm, hy1, hy2, hm1, hnm, hx, hbig, hag]
        exact ⟨hmo, fun _ => hb1⟩
    · simp [toI_int, toB_bool, hn5', hw1, hw0, hMm, hy1, hy2, hm1, hnm, hag]
      exact hmo
theorem con5 : Con Try.prog pre phi tb5 := con_cons c5 con6

end Go.Proofs.Ytcmejjgjkjiggaa
