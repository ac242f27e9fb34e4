/-
  What each function of this seat computes, and that it keeps to it (J).
-/
import Derived.Test.YtcmejjgjkjiggabCE
import Derived.Test.YtcmejjgjkjiggabL
set_option linter.unusedSimpArgs false
set_option linter.unusedVariables false
namespace Go.Proofs.Ytcmejjgjkjiggab
open Go Go.Eng Go.Proofs

theorem c29 : PureFn Try.prog 29 s29 (pre 29) (phi 29) := by
  refine pureFn_auto (given := []) mix con15 Try.func29 (by kernel_rfl) (v := vc29) (by kernel_rfl) ?_
  intro ds h hp
  obtain ⟨_, _, rfl, gl, _, _, rfl, gb, rfl⟩ := h
  obtain ⟨l, rfl, hl, hkl⟩ := intsD gl
  obtain ⟨b, rfl, hb⟩ := has_int.1 gb
  rw [inK64] at hb

  simp [vc29, vh_obl, vh_call, vh_room, vh_branch, vh_loop, vh_again, vh_ret, updV, den, U.den, B.den, upd, condB, toL_list, toL_agg, toL_tup, toL_ptr, toL_fn, toI_int, toB_bool, List.getElem?_map, Option.map_some, Option.getD_some, List.length_map, pre, hWo]
  obtain ⟨J, hJd⟩ : ∃ J : List D → Prop, ∀ xs, J xs ↔ ∃ n : Nat, xs = [.list ((woF (l.take n) b).map (D.int .i64)), .int .i64 n] ∧ n ≤ l.length := ⟨_, fun _ => Iff.rfl⟩
  obtain ⟨M, hMd⟩ : ∃ M : List D → Nat, ∀ xs, M xs = l.length - (I (.list xs) 1).toNat := ⟨_, fun _ => rfl⟩
  refine LoopOk.intro J M ((hJd _).2 ⟨0, rfl, Nat.zero_le _⟩) ?_
  intro xs hxs hJ
  obtain ⟨n, rfl, hle⟩ := (hJd _).1 hJ
  clear hJ
  clear hxs
  rcases hx : l[n]? with _ | x
  · have hge := ge_none hx
    have hlt : ¬ ((n : Int) < l.length) := by omega
    have e : n = l.length := by omega
    subst e
    simp [toI_int, toL_list, List.take_length]
  · have hlt := lt_some hx
    have hlt' : (n : Int) < l.length := by omega
    have hxm := List.mem_of_getElem? hx
    have hw1 : IntKind.wrap .i64 ((n : Int) + 1) = (n : Int) + 1 := wrap64 (by omega) (by omega)
    have hct := woF_take (s := b) hx
    have hwl := woF_len (l.take n) b
    rw [List.length_take] at hwl
    have hL : ∀ n : Nat, n ≤ 140737488355328 → n ≤ maxLen := fun n h => Nat.le_trans h (by decide)
    have hme : l.length - ((n : Int) + 1).toNat < l.length - (n : Int).toNat := by omega
    have hag : ∀ a : List D, a = (woF (l.take (n + 1)) b).map (D.int .i64) → J [.list a, .int .i64 ((n : Int) + 1)] ∧ M [.list a, .int .i64 ((n : Int) + 1)] < M [.list ((woF (l.take n) b).map (D.int .i64)), .int .i64 (n : Int)] := by
      rintro a rfl
      exact ⟨(hJd _).2 ⟨n + 1, rfl, hlt⟩, by rw [hMd, hMd]; exact hme⟩
    simp [toI_int, toL_list, hx, hlt', hw1, Nat.not_le.2 hlt]
    refine ⟨fun h => ⟨⟨hL _ (by omega), by omega⟩, hag _ (by rw [hct, if_neg h]; simp)⟩, fun h => hag _ (by rw [hct, if_pos h]; simp)⟩
theorem con29 : Con Try.prog pre phi tb29 := con_cons c29 con15

theorem c11 : PureFn Try.prog 11 s11 (pre 11) (phi 11) := by
  refine pureFn_auto (given := []) mix con29 Try.func11 (by kernel_rfl) (v := vc11) (by kernel_rfl) ?_
  intro ds h hp
  obtain ⟨_, _, rfl, ga, _, _, rfl, gb, rfl⟩ := h
  obtain ⟨va, la, rfl, hva, hkva, hla, hkla⟩ := confD ga
  obtain ⟨b, rfl, hb⟩ := has_int.1 gb
  rw [inK64] at hb

  have hpm : mayC va la = true → va.length ≤ 5 ∧ la.length ≤ 5 := fun h => ⟨mayC_len h, mayC_len2 h⟩
  simp [vc11, vh_obl, vh_call, vh_room, vh_branch, vh_loop, vh_again, vh_ret, updV, den, U.den, B.den, upd, condB, toL_list, toL_agg, toL_tup, toL_ptr, toL_fn, toI_int, toB_bool, List.getElem?_map, Option.map_some, Option.getD_some, List.length_map, pre, hMay, hCon, hWit, hWo, hPro, proF, err, vo_cf, lr_cf, intsOf_list]
  refine ⟨fun h => ?_, fun h1 h2 => ⟨by have := hpm h1; omega, ?_⟩⟩
  · rw [if_neg]
    · rfl
    · rintro ⟨q1, q2⟩
      rcases h with h | h
      · rw [h] at q1; cases q1
      · exact h q2
  · rw [if_pos ⟨h1, h2⟩]; rfl
theorem con11 : Con Try.prog pre phi tb11 := con_cons c11 con29

theorem c13 : PureFn Try.prog 13 s13 (pre 13) (phi 13) := by
  refine pureFn_auto (given := []) mix con11 Try.func13 (by kernel_rfl) (v := vc13) (by kernel_rfl) ?_
  intro ds h hp
  obtain ⟨_, _, rfl, ga, _, _, rfl, gb, rfl⟩ := h
  obtain ⟨va, la, rfl, hva, hkva, hla, hkla⟩ := confD ga
  obtain ⟨b, rfl, hb⟩ := has_int.1 gb
  rw [inK64] at hb

  have hpm : mayC va la = true → va.length ≤ 5 ∧ la.length ≤ 5 := fun h => ⟨mayC_len h, mayC_len2 h⟩
  simp [vc13, vh_obl, vh_call, vh_room, vh_branch, vh_loop, vh_again, vh_ret, updV, den, U.den, B.den, upd, condB, toL_list, toL_agg, toL_tup, toL_ptr, toL_fn, toI_int, toB_bool, List.getElem?_map, Option.map_some, Option.getD_some, List.length_map, pre, hMay, hMem, hCon, hWo, hRem, remF, err, vo_cf, lr_cf, intsOf_list]
  refine ⟨fun h => by have := hpm h; omega, fun h => ?_, fun h1 h2 h3 => ?_⟩
  · rw [if_neg]
    · rfl
    · rintro ⟨⟨q1, q2⟩, q3⟩
      rcases h with (h | h) | h
      · rw [h] at q1; cases q1
      · exact h q2
      · exact q3 h
  · rw [if_pos ⟨⟨h1, h2⟩, h3⟩]; rfl
theorem con13 : Con Try.prog pre phi tb13 := con_cons c13 con11

theorem c7 : PureFn Try.prog 7 s7 (pre 7) (phi 7) := by
  refine pureFn_auto (given := []) mix con13 Try.func7 (by kernel_rfl) (v := vc7) (by kernel_rfl) ?_
  intro ds h hp
  obtain ⟨_, _, rfl, ga, _, _, rfl, gb, rfl⟩ := h
  obtain ⟨va, la, rfl, hva, hkva, hla, hkla⟩ := confD ga
  obtain ⟨vb, lb, rfl, hvb, hkvb, hlb, hklb⟩ := confD gb

  simp [vc7, vh_obl, vh_call, vh_room, vh_branch, vh_loop, vh_again, vh_ret, updV, den, U.den, B.den, upd, condB, toL_list, toL_agg, toL_tup, toL_ptr, toL_fn, toI_int, toB_bool, List.getElem?_map, Option.map_some, Option.getD_some, List.length_map, pre, hMayR, hSinR]
  refine ⟨fun h => ?_, fun h1 h2 => ?_⟩
  · simp only [sinF, Bool.and_eq_false_iff]
    rcases h with h | h
    · exact .inl (.inl h)
    · exact .inl (.inr h)
  have hm : sinF va la vb lb = decide (difF va vb 6 ≤ 1) := by simp [sinF, h1, h2]
  obtain ⟨J, hJd⟩ : ∃ J : List D → Prop, ∀ xs, J xs ↔ ∃ n : Nat, xs = [.int .i64 (difF va vb n), .int .i64 n] ∧ 1 ≤ n ∧ n ≤ 6 := ⟨_, fun _ => Iff.rfl⟩
  obtain ⟨M, hMd⟩ : ∃ M : List D → Nat, ∀ xs, M xs = 6 - (I (.list xs) 1).toNat := ⟨_, fun _ => rfl⟩
  refine LoopOk.intro J M ((hJd _).2 ⟨1, by rw [difF_ris (mayC_iff.1 h1).1 (mayC_iff.1 h2).1]; rfl, Nat.le_refl _, by omega⟩) ?_
  intro xs hxs hJ
  obtain ⟨n, rfl, hn1, hle⟩ := (hJd _).1 hJ
  clear hJ hxs
  have hdl := difF_le va vb n
  by_cases hn : n = 6
  · subst hn
    simp [toI_int, hm]
    omega
  · have hlt' : (n : Int) ≤ 5 := by omega
    have hw1 : IntKind.wrap .i64 ((n : Int) + 1) = (n : Int) + 1 := wrap64 (by omega) (by omega)
    have hw2 : IntKind.wrap .i64 ((difF va vb n : Int) + 1) = (difF va vb n : Int) + 1 := wrap64 (by omega) (by omega)
    have hme : 6 - ((n : Int) + 1).toNat < 6 - (n : Int).toNat := by omega
    have hds := difF_succ va vb n
    have hn6 : ¬ (5 : Int) < n := by omega
    have hag : ∀ q : Int, q = difF va vb (n + 1) → J [.int .i64 q, .int .i64 ((n : Int) + 1)] ∧ M [.int .i64 q, .int .i64 ((n : Int) + 1)] < M [.int .i64 (difF va vb n), .int .i64 (n : Int)] := by
      rintro q rfl
      exact ⟨(hJd _).2 ⟨n + 1, rfl, by omega, by omega⟩, by rw [hMd, hMd]; exact hme⟩
    simp [toI_int, toB_bool, hlt', hw1, hw2, hInR, hn6]
    refine ⟨fun h => hag _ ?_, fun h => hag _ ?_⟩
    · have hb : (decide ((n : Int) ∈ va) != decide ((n : Int) ∈ vb)) = true := by simpa using h
      rw [hds, if_pos hb]; rfl
    · have hb : ¬ (decide ((n : Int) ∈ va) != decide ((n : Int) ∈ vb)) = true := by simpa using h
      rw [hds, if_neg hb]; rfl
theorem con7 : Con Try.prog pre phi tb7 := con_cons c7 con13

theorem c26 : PureFn Try.prog 26 s26 (pre 26) (phi 26) := by
  refine pureFn_auto (given := []) mix con7 Try.func26 (by kernel_rfl) (v := vc26) (by kernel_rfl) ?_
  intro ds h hp
  obtain ⟨_, _, rfl, gl, rfl⟩ := h
  obtain ⟨l, rfl, hl, hkl⟩ := intsD gl

  simp [vc26, vh_obl, vh_call, vh_room, vh_branch, vh_loop, vh_again, vh_ret, updV, den, U.den, B.den, upd, condB, toL_list, toL_agg, toL_tup, toL_ptr, toL_fn, toI_int, toB_bool, List.getElem?_map, Option.map_some, Option.getD_some, List.length_map, pre, hOwn]
  exact ⟨Nat.le_trans (show _ ≤ 140737488355328 by omega) (by decide), by omega⟩
theorem con26 : Con Try.prog pre phi tb26 := con_cons c26 con7

theorem c30 : PureFn Try.prog 30 s30 (pre 30) (phi 30) := by
  refine pureFn_auto (given := []) mix con26 Try.func30 (by kernel_rfl) (v := vc30) (by kernel_rfl) ?_
  intro ds h hp
  obtain ⟨_, _, rfl, gl, _, _, rfl, gb, rfl⟩ := h
  obtain ⟨l, rfl, hl, hkl⟩ := intsD gl
  obtain ⟨b, rfl, hb⟩ := has_int.1 gb
  rw [inK64] at hb

  simp [vc30, vh_obl, vh_call, vh_room, vh_branch, vh_loop, vh_again, vh_ret, updV, den, U.den, B.den, upd, condB, toL_list, toL_agg, toL_tup, toL_ptr, toL_fn, toI_int, toB_bool, List.getElem?_map, Option.map_some, Option.getD_some, List.length_map, pre, hWoR]
  obtain ⟨J, hJd⟩ : ∃ J : List D → Prop, ∀ xs, J xs ↔ ∃ n : Nat, xs = [.list ((woF (l.take n) b).map (D.int .i64)), .int .i64 n] ∧ n ≤ l.length := ⟨_, fun _ => Iff.rfl⟩
  obtain ⟨M, hMd⟩ : ∃ M : List D → Nat, ∀ xs, M xs = l.length - (I (.list xs) 1).toNat := ⟨_, fun _ => rfl⟩
  refine LoopOk.intro J M ((hJd _).2 ⟨0, rfl, Nat.zero_le _⟩) ?_
  intro xs hxs hJ
  obtain ⟨n, rfl, hle⟩ := (hJd _).1 hJ
  clear hJ
  clear hxs
  rcases hx : l[n]? with _ | x
  · have hge := ge_none hx
    have hlt : ¬ ((n : Int) < l.length) := by omega
    have e : n = l.length := by omega
    subst e
    simp [toI_int, toL_list, List.take_length]
  · have hlt := lt_some hx
    have hlt' : (n : Int) < l.length := by omega
    have hxm := List.mem_of_getElem? hx
    have hw1 : IntKind.wrap .i64 ((n : Int) + 1) = (n : Int) + 1 := wrap64 (by omega) (by omega)
    have hct := woF_take (s := b) hx
    have hwl := woF_len (l.take n) b
    rw [List.length_take] at hwl
    have hL : ∀ n : Nat, n ≤ 140737488355328 → n ≤ maxLen := fun n h => Nat.le_trans h (by decide)
    have hme : l.length - ((n : Int) + 1).toNat < l.length - (n : Int).toNat := by omega
    have hag : ∀ a : List D, a = (woF (l.take (n + 1)) b).map (D.int .i64) → J [.list a, .int .i64 ((n : Int) + 1)] ∧ M [.list a, .int .i64 ((n : Int) + 1)] < M [.list ((woF (l.take n) b).map (D.int .i64)), .int .i64 (n : Int)] := by
      rintro a rfl
      exact ⟨(hJd _).2 ⟨n + 1, rfl, hlt⟩, by rw [hMd, hMd]; exact hme⟩
    simp [toI_int, toL_list, hx, hlt', hw1, Nat.not_le.2 hlt]
    refine ⟨fun h => ⟨⟨hL _ (by omega), by omega⟩, hag _ (by rw [hct, if_neg h]; simp)⟩, fun h => hag _ (by rw [hct, if_pos h]; simp)⟩
theorem con30 : Con Try.prog pre phi tb30 := con_cons c30 con26

theorem c9 : PureFn Try.prog 9 s9 (pre 9) (phi 9) := by
  refine pureFn_auto (given := []) mix con30 Try.func9 (by kernel_rfl) (v := vc9) (by kernel_rfl) ?_
  intro ds h hp
  obtain ⟨_, _, rfl, ga, _, _, rfl, gb, rfl⟩ := h
  obtain ⟨va, la, rfl, hva, hkva, hla, hkla⟩ := confD ga
  obtain ⟨b, rfl, hb⟩ := has_int.1 gb
  rw [inK64] at hb

  replace hp : (va.length + la.length) * 8 ≤ 140737488355320 := by
    have h0 : ((vo (.agg [.list (va.map (D.int .i64)), .list (la.map (D.int .i64))])).length + (lr (.agg [.list (va.map (D.int .i64)), .list (la.map (D.int .i64))])).length) * 8 ≤ 140737488355320 := hp
    rwa [vo_cf, lr_cf] at h0

  simp [vc9, vh_obl, vh_call, vh_room, vh_branch, vh_loop, vh_again, vh_ret, updV, den, U.den, B.den, upd, condB, toL_list, toL_agg, toL_tup, toL_ptr, toL_fn, toI_int, toB_bool, List.getElem?_map, Option.map_some, Option.getD_some, List.length_map, pre, hMayR, hMemR, hInR, hOwn, hPut, hAddR, addF, vo_cf, lr_cf, intsOf_list, ← mem_eq]
  refine ⟨hp, fun h => ?_, fun h1 h2 h3 h4 => ⟨by omega, ?_⟩⟩
  · rw [if_neg]
    · rfl
    · intro hk
      simp only [addOk, Bool.and_eq_true, decide_eq_true_eq] at hk
      rcases h with ((h | h) | h) | h
      · rw [h] at hk; exact absurd hk.1.1.1 (by simp)
      · omega
      · omega
      · exact hk.2 h
  · have : addOk va la b = true := by simp [addOk, h1, h2, h3, h4]
    rw [mem_memF, not_or] at h4
    rw [if_pos this, with_put (mayC_set.1 h1).2.1.1 h4.2]; rfl
theorem con9 : Con Try.prog pre phi tb9 := con_cons c9 con30

theorem c12 : PureFn Try.prog 12 s12 (pre 12) (phi 12) := by
  refine pureFn_auto (given := []) mix con9 Try.func12 (by kernel_rfl) (v := vc12) (by kernel_rfl) ?_
  intro ds h hp
  obtain ⟨_, _, rfl, ga, _, _, rfl, gb, rfl⟩ := h
  obtain ⟨va, la, rfl, hva, hkva, hla, hkla⟩ := confD ga
  obtain ⟨b, rfl, hb⟩ := has_int.1 gb
  rw [inK64] at hb

  have hpm : mayC va la = true → va.length ≤ 5 ∧ la.length ≤ 5 := fun h => ⟨mayC_len h, mayC_len2 h⟩
  simp [vc12, vh_obl, vh_call, vh_room, vh_branch, vh_loop, vh_again, vh_ret, updV, den, U.den, B.den, upd, condB, toL_list, toL_agg, toL_tup, toL_ptr, toL_fn, toI_int, toB_bool, List.getElem?_map, Option.map_some, Option.getD_some, List.length_map, pre, hMayR, hInR, hOwn, hPut, hWoR, hProR, proF, err, vo_cf, lr_cf, intsOf_list]
  refine ⟨fun h => ?_, fun h1 h2 => ⟨by have := hpm h1; omega, ?_⟩⟩
  · rw [if_neg]
    · rfl
    · rintro ⟨q1, q2⟩
      rcases h with h | h
      · rw [h] at q1; cases q1
      · exact h q2
  · rw [if_pos ⟨h1, h2⟩, with_put (mayC_set.1 h1).1.1 ((mayC_set.1 h1).2.2.2 b h2)]; rfl
theorem con12 : Con Try.prog pre phi tb12 := con_cons c12 con9

theorem c14 : PureFn Try.prog 14 s14 (pre 14) (phi 14) := by
  refine pureFn_auto (given := []) mix con12 Try.func14 (by kernel_rfl) (v := vc14) (by kernel_rfl) ?_
  intro ds h hp
  obtain ⟨_, _, rfl, ga, _, _, rfl, gb, rfl⟩ := h
  obtain ⟨va, la, rfl, hva, hkva, hla, hkla⟩ := confD ga
  obtain ⟨b, rfl, hb⟩ := has_int.1 gb
  rw [inK64] at hb

  replace hp : (va.length + la.length) * 8 ≤ 140737488355320 := by
    have h0 : ((vo (.agg [.list (va.map (D.int .i64)), .list (la.map (D.int .i64))])).length + (lr (.agg [.list (va.map (D.int .i64)), .list (la.map (D.int .i64))])).length) * 8 ≤ 140737488355320 := hp
    rwa [vo_cf, lr_cf] at h0

  simp [vc14, vh_obl, vh_call, vh_room, vh_branch, vh_loop, vh_again, vh_ret, updV, den, U.den, B.den, upd, condB, toL_list, toL_agg, toL_tup, toL_ptr, toL_fn, toI_int, toB_bool, List.getElem?_map, Option.map_some, Option.getD_some, List.length_map, pre, hMayR, hMemR, hInR, hWoR, hRemR, remF, err, vo_cf, lr_cf, intsOf_list, ← mem_eq]
  refine ⟨hp, fun h => ?_, fun h1 h2 => ⟨fun h3 => ?_, fun h3 => ?_⟩⟩
  · rw [if_neg]
    · rfl
    · rintro ⟨⟨q1, q2⟩, q3⟩
      rcases h with h | h
      · rw [h] at q1; cases q1
      · exact h q2
  · rw [if_neg]
    · rfl
    · rintro ⟨_, q3⟩; exact q3 h3
  · rw [if_pos ⟨⟨h1, h2⟩, h3⟩]; rfl
theorem con14 : Con Try.prog pre phi tb14 := con_cons c14 con12

end Go.Proofs.Ytcmejjgjkjiggab
