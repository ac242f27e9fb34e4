/-
  What each function of this seat computes, and that it keeps to it (M).
-/
import Derived.Test.YtcmejjgjkjiggaaCH
import Derived.Test.YtcmejjgjkjiggaaL
set_option linter.unusedSimpArgs false
set_option linter.unusedVariables false
namespace Go.Proofs.Ytcmejjgjkjiggaa
open Go Go.Eng Go.Proofs

theorem c6 : PureFn Try.prog 6 s6 (pre 6) (phi 6) := by
  refine pureFn_auto (given := []) mix con8 Try.func6 (by kernel_rfl) (v := vc6) (by kernel_rfl) ?_
  intro ds h hp
  obtain ⟨_, _, rfl, ga, _, _, rfl, gb, _, _, rfl, gy, rfl⟩ := h
  obtain ⟨va, la, rfl, hva, hkva, hla, hkla⟩ := confD ga
  obtain ⟨vb, lb, rfl, hvb, hkvb, hlb, hklb⟩ := confD gb
  obtain ⟨vy, ly, rfl, hvy, hkvy, hly, hkly⟩ := confD gy

  have hR : phi 6 [.agg [.list (va.map (D.int .i64)), .list (la.map (D.int .i64))], .agg [.list (vb.map (D.int .i64)), .list (lb.map (D.int .i64))], .agg [.list (vy.map (D.int .i64)), .list (ly.map (D.int .i64))]] = .bool true := rfl
  simp [vc6, vh_obl, vh_call, vh_room, vh_branch, vh_loop, vh_again, vh_ret, updV, den, U.den, B.den, upd, condB, toL_list, toL_agg, toL_tup, toL_ptr, toL_fn, toI_int, toB_bool, List.getElem?_map, Option.map_some, Option.getD_some, List.length_map, pre, hSin, hMaj, hLiv, hR]
  intro h1 h2 h3
  obtain ⟨s0, hs1, hs5, m1, m2, m3, m4⟩ := meets h1 h2 h3
  obtain ⟨J, hJd⟩ : ∃ J : List D → Prop, ∀ xs, J xs ↔ ∃ n : Nat, xs = [.bool false, .int .i64 n] ∧ 1 ≤ n ∧ (n : Int) ≤ s0 := ⟨_, fun _ => Iff.rfl⟩
  obtain ⟨M, hMd⟩ : ∃ M : List D → Nat, ∀ xs, M xs = 6 - (I (.list xs) 1).toNat := ⟨_, fun _ => rfl⟩
  refine LoopOk.intro J M ((hJd _).2 ⟨1, rfl, Nat.le_refl _, hs1⟩) ?_
  intro xs hxs hJ
  obtain ⟨n, rfl, h1n, hle⟩ := (hJd _).1 hJ
  clear hJ hxs
  have hlt' : (n : Int) ≤ 5 := by omega
  have hw1 : IntKind.wrap .i64 ((n : Int) + 1) = (n : Int) + 1 := wrap64 (by omega) (by omega)
  have hn5 : ¬ (5 : Int) < n := by omega
  by_cases hn : (n : Int) = s0
  · simp [toI_int, toB_bool, hlt', hw1, hInR, hVot, hn5, hn, m1, m2, m3, m4, hs5, hLiv]
  · have hag : J [.bool false, .int .i64 ((n : Int) + 1)] ∧ M [.bool false, .int .i64 ((n : Int) + 1)] < M [.bool false, .int .i64 (n : Int)] := by
      refine ⟨(hJd _).2 ⟨n + 1, rfl, by omega, by omega⟩, ?_⟩
      rw [hMd, hMd]
      show 6 - ((n : Int) + 1).toNat < 6 - (n : Int).toNat
      omega
    simp [toI_int, toB_bool, hlt', hw1, hInR, hVot, hn5, hLiv, hag]
theorem con6 : Con Try.prog pre phi tb6 := con_cons c6 con8

end Go.Proofs.Ytcmejjgjkjiggaa
