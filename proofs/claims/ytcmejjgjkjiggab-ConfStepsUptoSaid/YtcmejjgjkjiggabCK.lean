/-
  What each function of this seat computes, and that it keeps to it (K).
-/
import Derived.Test.YtcmejjgjkjiggabCJ
import Derived.Test.YtcmejjgjkjiggabL
set_option linter.unusedSimpArgs false
set_option linter.unusedVariables false
namespace Go.Proofs.Ytcmejjgjkjiggab
open Go Go.Eng Go.Proofs

theorem c3 : PureFn Try.prog 3 s3 (pre 3) (phi 3) := by
  refine pureFn_auto (given := []) mix con14 Try.func3 (by kernel_rfl) (v := vc3) (by kernel_rfl) ?_
  intro ds h hp
  obtain ⟨_, _, rfl, ga, _, _, rfl, gb, _, _, rfl, gx, rfl⟩ := h
  obtain ⟨va, la, rfl, hva, hkva, hla, hkla⟩ := confD ga
  obtain ⟨vb, lb, rfl, hvb, hkvb, hlb, hklb⟩ := confD gb
  obtain ⟨x, rfl, hx⟩ := has_int.1 gx
  rw [inK64] at hx

  replace hp : wtL [.agg [.list (va.map (D.int .i64)), .list (la.map (D.int .i64))], .agg [.list (vb.map (D.int .i64)), .list (lb.map (D.int .i64))], .int .i64 x] ≤ 1048576 := hp
  rw [wt_conf, wt_conf, wt_int] at hp
  have hR : phi 3 [.agg [.list (va.map (D.int .i64)), .list (la.map (D.int .i64))], .agg [.list (vb.map (D.int .i64)), .list (lb.map (D.int .i64))], .int .i64 x] = .bool true := rfl
  obtain ⟨v1, l1, e1, ha⟩ := add_some va la x
  obtain ⟨v2, l2, e2, hpr⟩ := pro_some va la x
  obtain ⟨v3, l3, e3, hrm⟩ := rem_some va la x
  simp [vc3, vh_obl, vh_call, vh_room, vh_branch, vh_loop, vh_again, vh_ret, updV, den, U.den, B.den, upd, condB, toL_list, toL_agg, toL_tup, toL_ptr, toL_fn, toI_int, toB_bool, List.getElem?_map, Option.map_some, Option.getD_some, List.length_map, pre, vo_cf, lr_cf, hSin, hSinR, hAdd, hAddR, hPro, hProR, hRem, hRemR, ha, hpr, hrm, hSamR, hLiv, hR]
  omega
theorem con3 : Con Try.prog pre phi tb3 := con_cons c3 con14

end Go.Proofs.Ytcmejjgjkjiggab
