/-
  What each function of this seat computes, and that it keeps to it (D).
-/
import Derived.Test.YtcmejjgjkjiggabCB
import Derived.Test.YtcmejjgjkjiggabL
set_option linter.unusedSimpArgs false
set_option linter.unusedVariables false
namespace Go.Proofs.Ytcmejjgjkjiggab
open Go Go.Eng Go.Proofs

theorem c6 : PureFn Try.prog 6 s6 (pre 6) (phi 6) := by
  refine pureFn_auto (given := []) mix con32 Try.func6 (by kernel_rfl) (v := vc6) (by kernel_rfl) ?_
  intro ds h hp
  obtain ⟨_, _, rfl, ga, _, _, rfl, gb, rfl⟩ := h
  obtain ⟨va, la, rfl, hva, hkva, hla, hkla⟩ := confD ga
  obtain ⟨vb, lb, rfl, hvb, hkvb, hlb, hklb⟩ := confD gb

  simp [vc6, vh_obl, vh_call, vh_room, vh_branch, vh_loop, vh_again, vh_ret, updV, den, U.den, B.den, upd, condB, toL_list, toL_agg, toL_tup, toL_ptr, toL_fn, toI_int, toB_bool, List.getElem?_map, Option.map_some, Option.getD_some, List.length_map, pre, hMay, hSin]
  refine ⟨fun h => ?_, fun h1 h2 => ?_⟩
  · simp only [sinF, Bool.and_eq_false_iff]
    rcases h with h | h
    · exact .inl (.inl h)
    · exact .inl (.inr h)
  have hm : sinF va la vb lb = decide (difF va vb 6 ≤ 1) := by simp [sinF, h1, h2]
  obtain ⟨J, hJd⟩ : ∃ J : List D → Prop, ∀ xs, J xs ↔ ∃ n : Nat, xs = [.int .i64 (difF va vb n), .int .i64 n] ∧ n ≤ 6 := ⟨_, fun _ => Iff.rfl⟩
  obtain ⟨M, hMd⟩ : ∃ M : List D → Nat, ∀ xs, M xs = 6 - (I (.list xs) 1).toNat := ⟨_, fun _ => rfl⟩
  refine LoopOk.intro J M ((hJd _).2 ⟨0, rfl, Nat.zero_le _⟩) ?_
  intro xs hxs hJ
  obtain ⟨n, rfl, hle⟩ := (hJd _).1 hJ
  clear hJ hxs
  have hdl := difF_le va vb n
  by_cases hn : n = 6
  · subst hn
    simp [toI_int, hm]
    omega
  · have hlt' : (n : Int) < 6 := by omega
    have hw1 : IntKind.wrap .i64 ((n : Int) + 1) = (n : Int) + 1 := wrap64 (by omega) (by omega)
    have hw2 : IntKind.wrap .i64 ((difF va vb n : Int) + 1) = (difF va vb n : Int) + 1 := wrap64 (by omega) (by omega)
    have hme : 6 - ((n : Int) + 1).toNat < 6 - (n : Int).toNat := by omega
    have hds := difF_succ va vb n
    have hn6 : ¬ (6 : Int) ≤ n := by omega
    have hag : ∀ q : Int, q = difF va vb (n + 1) → J [.int .i64 q, .int .i64 ((n : Int) + 1)] ∧ M [.int .i64 q, .int .i64 ((n : Int) + 1)] < M [.int .i64 (difF va vb n), .int .i64 (n : Int)] := by
      rintro q rfl
      exact ⟨(hJd _).2 ⟨n + 1, rfl, by omega⟩, by rw [hMd, hMd]; exact hme⟩
    simp [toI_int, toB_bool, hlt', hw1, hw2, hVot, hn6]
    refine ⟨fun h => hag _ ?_, fun h => hag _ ?_⟩
    · have hb : (decide ((n : Int) ∈ va) != decide ((n : Int) ∈ vb)) = true := by simpa using h
      rw [hds, if_pos hb]; rfl
    · have hb : ¬ (decide ((n : Int) ∈ va) != decide ((n : Int) ∈ vb)) = true := by simpa using h
      rw [hds, if_neg hb]; rfl
theorem con6 : Con Try.prog pre phi tb6 := con_cons c6 con32

theorem c24 : PureFn Try.prog 24 s24 (pre 24) (phi 24) := by
  refine pureFn_auto (given := []) mix con6 Try.func24 (by kernel_rfl) (v := vc24) (by kernel_rfl) ?_
  intro ds h hp
  obtain ⟨_, _, rfl, gl, _, _, rfl, gb, rfl⟩ := h
  obtain ⟨l, rfl, hl, hkl⟩ := intsD gl
  obtain ⟨b, rfl, hb⟩ := has_int.1 gb
  rw [inK64] at hb

  replace hp : l.length * 8 ≤ 140737488355320 := by
    have h0 : (intsOf (.list (l.map (D.int .i64)))).length * 8 ≤ 140737488355320 := hp
    rwa [intsOf_list] at h0
  simp [vc24, vh_obl, vh_call, vh_room, vh_branch, vh_loop, vh_again, vh_ret, updV, den, U.den, B.den, upd, condB, toL_list, toL_agg, toL_tup, toL_ptr, toL_fn, toI_int, toB_bool, List.getElem?_map, Option.map_some, Option.getD_some, List.length_map, pre, hClo, hSor1, hWit, withF]
  exact ⟨Nat.le_trans (show _ ≤ 140737488355328 by omega) (by decide), by omega⟩
theorem con24 : Con Try.prog pre phi tb24 := con_cons c24 con6

theorem c8 : PureFn Try.prog 8 s8 (pre 8) (phi 8) := by
  refine pureFn_auto (given := []) mix con24 Try.func8 (by kernel_rfl) (v := vc8) (by kernel_rfl) ?_
  intro ds h hp
  obtain ⟨_, _, rfl, ga, _, _, rfl, gb, rfl⟩ := h
  obtain ⟨va, la, rfl, hva, hkva, hla, hkla⟩ := confD ga
  obtain ⟨b, rfl, hb⟩ := has_int.1 gb
  rw [inK64] at hb

  have hpm : mayC va la = true → va.length ≤ 5 ∧ la.length ≤ 5 := fun h => ⟨mayC_len h, mayC_len2 h⟩
  simp [vc8, vh_obl, vh_call, vh_room, vh_branch, vh_loop, vh_again, vh_ret, updV, den, U.den, B.den, upd, condB, toL_list, toL_agg, toL_tup, toL_ptr, toL_fn, toI_int, toB_bool, List.getElem?_map, Option.map_some, Option.getD_some, List.length_map, pre, hMay, hMem, hCon, hClo, hWit, hAdd, addF, vo_cf, lr_cf, intsOf_list]
  refine ⟨fun h1 _ _ => ?_, fun h => ?_, fun h1 h2 h3 h4 => ⟨?_, ?_⟩⟩
  · have := hpm h1; omega
  · have : addOk va la b = false := by
      rw [Bool.eq_false_iff]; intro hk
      simp only [addOk, Bool.and_eq_true, decide_eq_true_eq] at hk
      rcases h with ((h | h) | h) | h
      · rw [h] at hk; exact absurd hk.1.1.1 (by simp)
      · omega
      · omega
      · exact hk.2 h
    rw [this]; rfl
  · have := hpm h1; omega
  · have : addOk va la b = true := by simp [addOk, h1, h2, h3, h4]
    rw [this]; rfl
theorem con8 : Con Try.prog pre phi tb8 := con_cons c8 con24

end Go.Proofs.Ytcmejjgjkjiggab
