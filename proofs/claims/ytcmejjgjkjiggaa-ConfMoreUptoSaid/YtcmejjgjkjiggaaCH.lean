/-
  What each function of this seat computes, and that it keeps to it (H).
-/
import Derived.Test.YtcmejjgjkjiggaaCG
import Derived.Test.YtcmejjgjkjiggaaL
set_option linter.unusedSimpArgs false
set_option linter.unusedVariables false
namespace Go.Proofs.Ytcmejjgjkjiggaa
open Go Go.Eng Go.Proofs

theorem c7 : PureFn Try.prog 7 s7 (pre 7) (phi 7) := by
  refine pureFn_auto (given := []) mix con4 Try.func7 (by kernel_rfl) (v := vc7) (by kernel_rfl) ?_
  intro ds h hp
  obtain ⟨_, _, rfl, ga, _, _, rfl, gb, _, _, rfl, gy, rfl⟩ := h
  obtain ⟨va, la, rfl, hva, hkva, hla, hkla⟩ := confD ga
  obtain ⟨vb, lb, rfl, hvb, hkvb, hlb, hklb⟩ := confD gb
  obtain ⟨y, rfl, hy, hky⟩ := intsD gy

  replace hp : wtL [.agg [.list (va.map (D.int .i64)), .list (la.map (D.int .i64))], .agg [.list (vb.map (D.int .i64)), .list (lb.map (D.int .i64))], .list (y.map (D.int .i64))] ≤ 1048576 := hp
  rw [wt_conf, wt_conf, wt_list] at hp
  have hL : ∀ n : Nat, n ≤ 140737488355328 → n ≤ maxLen := fun n h => Nat.le_trans h (by decide)
  have hM2 : phi 9 [.agg [.list (va.map (D.int .i64)), .list (la.map (D.int .i64))], .list (y.map (D.int .i64) ++ y.map (D.int .i64))] = .bool (majF va y) := by rw [← List.map_append, hMaj, majF_twice]
  have hM3 : phi 9 [.agg [.list (va.map (D.int .i64)), .list []], .list (y.map (D.int .i64))] = .bool (majF va y) := hMaj [] y va
  have hA3 : phi 11 [.agg [.list (va.map (D.int .i64)), .list []], .list (y.map (D.int .i64))] = .int .i64 (agrF va y) := hAgr [] y va
  have hR : phi 7 [.agg [.list (va.map (D.int .i64)), .list (la.map (D.int .i64))], .agg [.list (vb.map (D.int .i64)), .list (lb.map (D.int .i64))], .list (y.map (D.int .i64))] = .bool true := rfl
  simp [vc7, vh_obl, vh_call, vh_room, vh_branch, vh_loop, vh_again, vh_ret, updV, den, U.den, B.den, upd, condB, toL_list, toL_agg, toL_tup, toL_ptr, toL_fn, toI_int, toB_bool, List.getElem?_map, Option.map_some, Option.getD_some, List.length_map, pre, hSin, hMaj, hM2, hM3, hAgr, hA3, hLiv, hR, sinF_comm vb lb va la]
  exact ⟨⟨hL _ (by omega), by omega⟩, hL _ (by omega), by omega⟩
theorem con7 : Con Try.prog pre phi tb7 := con_cons c7 con4

theorem c8 : PureFn Try.prog 8 s8 (pre 8) (phi 8) := by
  refine pureFn_auto (given := []) mix con7 Try.func8 (by kernel_rfl) (v := vc8) (by kernel_rfl) ?_
  intro ds h hp
  obtain ⟨_, _, rfl, ga, _, _, rfl, gb, _, _, rfl, gx, rfl⟩ := h
  obtain ⟨va, la, rfl, hva, hkva, hla, hkla⟩ := confD ga
  obtain ⟨vb, lb, rfl, hvb, hkvb, hlb, hklb⟩ := confD gb
  obtain ⟨x, rfl, hx⟩ := has_int.1 gx
  rw [inK64] at hx

  replace hp : wtL [.agg [.list (va.map (D.int .i64)), .list (la.map (D.int .i64))], .agg [.list (vb.map (D.int .i64)), .list (lb.map (D.int .i64))], .int .i64 x] ≤ 1048576 := hp
  rw [wt_conf, wt_conf, wt_int] at hp
  have hR : phi 8 [.agg [.list (va.map (D.int .i64)), .list (la.map (D.int .i64))], .agg [.list (vb.map (D.int .i64)), .list (lb.map (D.int .i64))], .int .i64 x] = .bool true := rfl
  simp [vc8, vh_obl, vh_call, vh_room, vh_branch, vh_loop, vh_again, vh_ret, updV, den, U.den, B.den, upd, condB, toL_list, toL_agg, toL_tup, toL_ptr, toL_fn, toI_int, toB_bool, List.getElem?_map, Option.map_some, Option.getD_some, List.length_map, pre, vo_cf, lr_cf, hMem, hMemR, hNum, mem_eq, hMay, hMayR, hSam, hSamR, hVot, hInR, hLiv, hR]
  omega
theorem con8 : Con Try.prog pre phi tb8 := con_cons c8 con7

end Go.Proofs.Ytcmejjgjkjiggaa
