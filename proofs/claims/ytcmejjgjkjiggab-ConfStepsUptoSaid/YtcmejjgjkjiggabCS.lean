/-
  What each function of this seat computes, and that it keeps to it (S).
-/
import Derived.Test.YtcmejjgjkjiggabCKG
import Derived.Test.YtcmejjgjkjiggabL
set_option linter.unusedSimpArgs false
set_option linter.unusedVariables false
namespace Go.Proofs.Ytcmejjgjkjiggab
open Go Go.Eng Go.Proofs

theorem wo_with {l : List Int} {s : Int} (hl : l.Pairwise (· < ·)) (hs : s ∉ l) : woF (withF l s) s = l := by
  refine strict_ext (woF_strict (with_strict hl hs)) hl fun x => ?_
  rw [mem_woF, mem_withF]
  constructor
  · rintro ⟨h1 | h1, h2⟩
    · exact h1
    · exact absurd h1 h2
  · intro h; exact ⟨.inl h, fun e => hs (e ▸ h)⟩
theorem add_cases (v l : List Int) (s : Int) : addF v l s = .tup [cf [] [], .int .i64 22] ∨
    ∃ v2 l2, addF v l s = .tup [cf v (withF l s), .int .i64 0] ∧ mayC v (withF l s) = true ∧ sinF v l v (withF l s) = true ∧ s ∉ v ∧ proF v (withF l s) s = .tup [cf v2 l2, .int .i64 0] ∧ s ∈ v2 ∧
      sinF v (withF l s) v2 l2 = true ∧ remF v2 l2 s = .tup [cf v l, .int .i64 0] := by
  by_cases hk : addOk v l s = true
  · right
    have hk' := hk
    simp only [addOk, Bool.and_eq_true, decide_eq_true_eq] at hk'
    obtain ⟨⟨⟨hm, h1⟩, h2⟩, h3⟩ := hk'
    rw [mem_memF, not_or] at h3
    obtain ⟨hv, hl⟩ := h3
    obtain ⟨⟨a1, a2⟩, ⟨b1, b2⟩, c, d⟩ := mayC_set.1 hm
    obtain ⟨g1, g2, g3⟩ := grow_new hm h1 h2 hv hl
    obtain ⟨k1, k2, k3, k4⟩ := grow_learn g2 g3
    have hin : s ∈ withF v s := mem_withF.2 (.inr rfl)
    have e1 := wo_with a1 hv
    have e2 := wo_with b1 hl
    rw [e2] at k2 k3 k4
    obtain ⟨m1, m2, m3⟩ := rem_ok k3 hin (by rw [e1]; exact c)
    have e3 : woF l s = l := by
      unfold woF
      exact List.filter_eq_self.2 fun y hy => by simp; rintro rfl; exact hl hy
    rw [e1, e3] at m1
    exact ⟨withF v s, l, g1, g2, sin_one hm g2 (s := s) (fun y _ => Iff.rfl), hv, by rw [k2], hin, k4, m1⟩
  · left
    unfold addF; rw [if_neg hk]
theorem rem_cases (v l : List Int) (s : Int) : remF v l s = .tup [cf [] [], .int .i64 22] ∨
    remF v l s = .tup [cf (woF v s) (woF l s), .int .i64 0] ∧ mayC (woF v s) (woF l s) = true ∧ sinF v l (woF v s) (woF l s) = true ∧ s ∉ memF (woF v s) (woF l s) ∧ mayC v l = true := by
  by_cases hk : (mayC v l && decide (s ∈ memF v l) && !(woF v s).isEmpty) = true
  · right
    have hk' := hk
    simp only [Bool.and_eq_true, decide_eq_true_eq, Bool.not_eq_true', List.isEmpty_eq_false_iff] at hk'
    obtain ⟨⟨hm, h1⟩, h2⟩ := hk'
    have hm2 := may_rem (s := s) hm h2
    refine ⟨by unfold remF; rw [if_pos hk], hm2, sin_one hm hm2 (s := s) fun y hy => ?_, ?_, hm⟩
    · rw [mem_woF]; exact ⟨fun h => ⟨h, hy⟩, fun h => h.1⟩
    · rw [mem_memF, mem_woF, mem_woF]; rintro (h | h) <;> exact h.2 rfl
  · left
    unfold remF; rw [if_neg hk]; rfl
theorem c5 : PureFn Try.prog 5 s5 (pre 5) (phi 5) := by
  refine pureFn_auto (given := [(1000000, {drop := [90]}), (18, {boxes := [(6, [(0, 3), (1, 3)])]}), (22, {boxes := [(6, [(0, 3), (1, 3)])]})]) mix con4 Try.func5 (by kernel_rfl) (v := vc5) (by kernel_rfl) ?_
  intro ds h hp
  obtain ⟨_, _, rfl, ga, _, _, rfl, gx, rfl⟩ := h
  obtain ⟨va, la, rfl, hva, hkva, hla, hkla⟩ := confD ga
  obtain ⟨x, rfl, hx⟩ := has_int.1 gx
  rw [inK64] at hx

  replace hp : wtL [.agg [.list (va.map (D.int .i64)), .list (la.map (D.int .i64))], .int .i64 x] ≤ 1048576 := hp
  rw [wt_conf, wt_int] at hp
  have hL : ∀ n : Nat, n ≤ 140737488355328 → n ≤ maxLen := fun n h => Nat.le_trans h (by decide)
  have hR : phi 5 [.agg [.list (va.map (D.int .i64)), .list (la.map (D.int .i64))], .int .i64 x] = .bool true := rfl
  have hva1 : va.length ≤ maxLen ∧ va.length * 8 ≤ 140737488355328 := ⟨hL _ (by omega), by omega⟩
  have hla1 : la.length ≤ maxLen ∧ la.length * 8 ≤ 140737488355328 := ⟨hL _ (by omega), by omega⟩
  have hwv := woF_len va x
  have hwl := woF_len la x
  rcases add_cases va la x with ha | ⟨v2, l2, ha, h1, h2, h3, h4, h5, h6, h7⟩
  · rcases rem_cases va la x with hr | ⟨hr, h8, h9, h10, h11⟩
    · simp [vc5, vh_obl, vh_call, vh_room, vh_branch, vh_loop, vh_again, vh_ret, updV, den, U.den, B.den, upd, condB, toL_list, toL_agg, toL_tup, toL_ptr, toL_fn, toI_int, toB_bool, List.getElem?_map, Option.map_some, Option.getD_some, List.length_map, pre, hAdd, hPro, hRem, hMay, hSin, hVot, hSam, hSamR, hInR, hMem, hLiv, hR, cf_def, toI_int, hva1, hla1, hr, ha]
      have hv0 : (([] : List D)).length ≤ 2097152 := by simp
      have hl0 : (([] : List D)).length ≤ 2097152 := by simp
      obtain ⟨J1, hJ1d⟩ : ∃ J : List D → Prop, ∀ xs, J xs ↔ ∃ (n : Nat) (a b : List D), xs = [.int .i64 n, .list a, .list b] ∧ n ≤ a.length ∧ a.length ≤ 2097152 ∧ b.length ≤ 2097152 := ⟨_, fun _ => Iff.rfl⟩
      obtain ⟨M1, hM1d⟩ : ∃ M : List D → Nat, ∀ xs, M xs = (xs.getD 1 .top).toL.length - (I (.list xs) 0).toNat := ⟨_, fun _ => rfl⟩
      refine LoopOk.intro J1 M1 ((hJ1d _).2 ⟨0, ([] : List D), ([] : List D), rfl, Nat.zero_le _, hv0, hl0⟩) ?_
      intro xs hxs hJ
      obtain ⟨n1, a, b, rfl, h1a, h2a, h3a⟩ := (hJ1d _).1 hJ
      clear hJ hxs
      have hw1 : IntKind.wrap .i64 ((n1 : Int) + 1) = (n1 : Int) + 1 := wrap64 (by omega) (by omega)
      have hag1 : n1 < a.length → J1 [.int .i64 ((n1 : Int) + 1), .list (a.take n1 ++ .int .i64 99 :: a.drop (n1 + 1)), .list b] ∧ M1 [.int .i64 ((n1 : Int) + 1), .list (a.take n1 ++ .int .i64 99 :: a.drop (n1 + 1)), .list b] < M1 [.int .i64 (n1 : Int), .list a, .list b] := by
        intro hlt
        have e : (a.take n1 ++ D.int .i64 99 :: a.drop (n1 + 1)).length = a.length := by simp only [List.length_append, List.length_take, List.length_cons, List.length_drop]; omega
        refine ⟨(hJ1d _).2 ⟨n1 + 1, _, _, rfl, by omega, by omega, by omega⟩, ?_⟩
        rw [hM1d, hM1d]
        show (a.take n1 ++ D.int .i64 99 :: a.drop (n1 + 1)).length - ((n1 : Int) + 1).toNat < a.length - (n1 : Int).toNat
        omega
      simp only [List.length_cons, List.length_nil, List.getElem?_cons_zero, List.getElem?_cons_succ, Option.getD_some, toI_int, toL_list, hw1, Int.toNat_natCast]
      simp (config := { decide := true }) only [if_true]
      simp only [toI_int, toL_list, hw1, Int.toNat_natCast]
      refine ⟨fun hlt => ⟨⟨by omega, hlt⟩, hag1 (by omega)⟩, fun hge => ?_⟩
      obtain ⟨J2, hJ2d⟩ : ∃ J : List D → Prop, ∀ xs, J xs ↔ ∃ (n : Nat) (a b : List D), xs = [.int .i64 n, .list a, .list b] ∧ n ≤ b.length ∧ a.length ≤ 2097152 ∧ b.length ≤ 2097152 := ⟨_, fun _ => Iff.rfl⟩
      obtain ⟨M2, hM2d⟩ : ∃ M : List D → Nat, ∀ xs, M xs = (xs.getD 2 .top).toL.length - (I (.list xs) 0).toNat := ⟨_, fun _ => rfl⟩
      refine LoopOk.intro J2 M2 ((hJ2d _).2 ⟨0, a, b, rfl, Nat.zero_le _, h2a, h3a⟩) ?_
      intro xs hxs hJ
      obtain ⟨n2, c, d, rfl, h1c, h2c, h3c⟩ := (hJ2d _).1 hJ
      clear hJ hxs
      have hw2 : IntKind.wrap .i64 ((n2 : Int) + 1) = (n2 : Int) + 1 := wrap64 (by omega) (by omega)
      have hag2 : n2 < d.length → J2 [.int .i64 ((n2 : Int) + 1), .list c, .list (d.take n2 ++ .int .i64 99 :: d.drop (n2 + 1))] ∧ M2 [.int .i64 ((n2 : Int) + 1), .list c, .list (d.take n2 ++ .int .i64 99 :: d.drop (n2 + 1))] < M2 [.int .i64 (n2 : Int), .list c, .list d] := by
        intro hlt
        have e : (d.take n2 ++ D.int .i64 99 :: d.drop (n2 + 1)).length = d.length := by simp only [List.length_append, List.length_take, List.length_cons, List.length_drop]; omega
        refine ⟨(hJ2d _).2 ⟨n2 + 1, _, _, rfl, by omega, by omega, by omega⟩, ?_⟩
        rw [hM2d, hM2d]
        show (d.take n2 ++ D.int .i64 99 :: d.drop (n2 + 1)).length - ((n2 : Int) + 1).toNat < d.length - (n2 : Int).toNat
        omega
      simp only [List.length_cons, List.length_nil, List.getElem?_cons_zero, List.getElem?_cons_succ, Option.getD_some, toI_int, toL_list, hw2, Int.toNat_natCast]
      simp (config := { decide := true }) only [if_true]
      simp only [toI_int, toL_list, hw2, Int.toNat_natCast]
      exact fun hlt => ⟨⟨by omega, hlt⟩, hag2 (by omega)⟩
    · have hb : (woF va x).length + (woF la x).length ≤ 17592186044415 := by omega
      simp [vc5, vh_obl, vh_call, vh_room, vh_branch, vh_loop, vh_again, vh_ret, updV, den, U.den, B.den, upd, condB, toL_list, toL_agg, toL_tup, toL_ptr, toL_fn, toI_int, toB_bool, List.getElem?_map, Option.map_some, Option.getD_some, List.length_map, pre, hAdd, hPro, hRem, hMay, hSin, hVot, hSam, hSamR, hInR, hMem, hLiv, hR, cf_def, toI_int, hva1, hla1, hr, h8, h9, h10, ha]
      refine ⟨by rw [vo_cf, lr_cf]; omega, ?_⟩
      have hv0 : (((woF va x).map (D.int .i64))).length ≤ 2097152 := by rw [List.length_map]; omega
      have hl0 : (((woF la x).map (D.int .i64))).length ≤ 2097152 := by rw [List.length_map]; omega
      obtain ⟨J1, hJ1d⟩ : ∃ J : List D → Prop, ∀ xs, J xs ↔ ∃ (n : Nat) (a b : List D), xs = [.int .i64 n, .list a, .list b] ∧ n ≤ a.length ∧ a.length ≤ 2097152 ∧ b.length ≤ 2097152 := ⟨_, fun _ => Iff.rfl⟩
      obtain ⟨M1, hM1d⟩ : ∃ M : List D → Nat, ∀ xs, M xs = (xs.getD 1 .top).toL.length - (I (.list xs) 0).toNat := ⟨_, fun _ => rfl⟩
      refine LoopOk.intro J1 M1 ((hJ1d _).2 ⟨0, ((woF va x).map (D.int .i64)), ((woF la x).map (D.int .i64)), rfl, Nat.zero_le _, hv0, hl0⟩) ?_
      intro xs hxs hJ
      obtain ⟨n1, a, b, rfl, h1a, h2a, h3a⟩ := (hJ1d _).1 hJ
      clear hJ hxs
      have hw1 : IntKind.wrap .i64 ((n1 : Int) + 1) = (n1 : Int) + 1 := wrap64 (by omega) (by omega)
      have hag1 : n1 < a.length → J1 [.int .i64 ((n1 : Int) + 1), .list (a.take n1 ++ .int .i64 99 :: a.drop (n1 + 1)), .list b] ∧ M1 [.int .i64 ((n1 : Int) + 1), .list (a.take n1 ++ .int .i64 99 :: a.drop (n1 + 1)), .list b] < M1 [.int .i64 (n1 : Int), .list a, .list b] := by
        intro hlt
        have e : (a.take n1 ++ D.int .i64 99 :: a.drop (n1 + 1)).length = a.length := by simp only [List.length_append, List.length_take, List.length_cons, List.length_drop]; omega
        refine ⟨(hJ1d _).2 ⟨n1 + 1, _, _, rfl, by omega, by omega, by omega⟩, ?_⟩
        rw [hM1d, hM1d]
        show (a.take n1 ++ D.int .i64 99 :: a.drop (n1 + 1)).length - ((n1 : Int) + 1).toNat < a.length - (n1 : Int).toNat
        omega
      simp only [List.length_cons, List.length_nil, List.getElem?_cons_zero, List.getElem?_cons_succ, Option.getD_some, toI_int, toL_list, hw1, Int.toNat_natCast]
      simp (config := { decide := true }) only [if_true]
      simp only [toI_int, toL_list, hw1, Int.toNat_natCast]
      refine ⟨fun hlt => ⟨⟨by omega, hlt⟩, hag1 (by omega)⟩, fun hge => ?_⟩
      obtain ⟨J2, hJ2d⟩ : ∃ J : List D → Prop, ∀ xs, J xs ↔ ∃ (n : Nat) (a b : List D), xs = [.int .i64 n, .list a, .list b] ∧ n ≤ b.length ∧ a.length ≤ 2097152 ∧ b.length ≤ 2097152 := ⟨_, fun _ => Iff.rfl⟩
      obtain ⟨M2, hM2d⟩ : ∃ M : List D → Nat, ∀ xs, M xs = (xs.getD 2 .top).toL.length - (I (.list xs) 0).toNat := ⟨_, fun _ => rfl⟩
      refine LoopOk.intro J2 M2 ((hJ2d _).2 ⟨0, a, b, rfl, Nat.zero_le _, h2a, h3a⟩) ?_
      intro xs hxs hJ
      obtain ⟨n2, c, d, rfl, h1c, h2c, h3c⟩ := (hJ2d _).1 hJ
      clear hJ hxs
      have hw2 : IntKind.wrap .i64 ((n2 : Int) + 1) = (n2 : Int) + 1 := wrap64 (by omega) (by omega)
      have hag2 : n2 < d.length → J2 [.int .i64 ((n2 : Int) + 1), .list c, .list (d.take n2 ++ .int .i64 99 :: d.drop (n2 + 1))] ∧ M2 [.int .i64 ((n2 : Int) + 1), .list c, .list (d.take n2 ++ .int .i64 99 :: d.drop (n2 + 1))] < M2 [.int .i64 (n2 : Int), .list c, .list d] := by
        intro hlt
        have e : (d.take n2 ++ D.int .i64 99 :: d.drop (n2 + 1)).length = d.length := by simp only [List.length_append, List.length_take, List.length_cons, List.length_drop]; omega
        refine ⟨(hJ2d _).2 ⟨n2 + 1, _, _, rfl, by omega, by omega, by omega⟩, ?_⟩
        rw [hM2d, hM2d]
        show (d.take n2 ++ D.int .i64 99 :: d.drop (n2 + 1)).length - ((n2 : Int) + 1).toNat < d.length - (n2 : Int).toNat
        omega
      simp only [List.length_cons, List.length_nil, List.getElem?_cons_zero, List.getElem?_cons_succ, Option.getD_some, toI_int, toL_list, hw2, Int.toNat_natCast]
      simp (config := { decide := true }) only [if_true]
      simp only [toI_int, toL_list, hw2, Int.toNat_natCast]
      exact fun hlt => ⟨⟨by omega, hlt⟩, hag2 (by omega)⟩
  · rcases rem_cases va la x with hr | ⟨hr, h8, h9, h10, h11⟩
    · simp [vc5, vh_obl, vh_call, vh_room, vh_branch, vh_loop, vh_again, vh_ret, updV, den, U.den, B.den, upd, condB, toL_list, toL_agg, toL_tup, toL_ptr, toL_fn, toI_int, toB_bool, List.getElem?_map, Option.map_some, Option.getD_some, List.length_map, pre, hAdd, hPro, hRem, hMay, hSin, hVot, hSam, hSamR, hInR, hMem, hLiv, hR, cf_def, toI_int, hva1, hla1, hr, ha, h1, h2, h3, h4, h5, h6, h7]
      have hv0 : (([] : List D)).length ≤ 2097152 := by simp
      have hl0 : (([] : List D)).length ≤ 2097152 := by simp
      obtain ⟨J1, hJ1d⟩ : ∃ J : List D → Prop, ∀ xs, J xs ↔ ∃ (n : Nat) (a b : List D), xs = [.int .i64 n, .list a, .list b] ∧ n ≤ a.length ∧ a.length ≤ 2097152 ∧ b.length ≤ 2097152 := ⟨_, fun _ => Iff.rfl⟩
      obtain ⟨M1, hM1d⟩ : ∃ M : List D → Nat, ∀ xs, M xs = (xs.getD 1 .top).toL.length - (I (.list xs) 0).toNat := ⟨_, fun _ => rfl⟩
      refine LoopOk.intro J1 M1 ((hJ1d _).2 ⟨0, ([] : List D), ([] : List D), rfl, Nat.zero_le _, hv0, hl0⟩) ?_
      intro xs hxs hJ
      obtain ⟨n1, a, b, rfl, h1a, h2a, h3a⟩ := (hJ1d _).1 hJ
      clear hJ hxs
      have hw1 : IntKind.wrap .i64 ((n1 : Int) + 1) = (n1 : Int) + 1 := wrap64 (by omega) (by omega)
      have hag1 : n1 < a.length → J1 [.int .i64 ((n1 : Int) + 1), .list (a.take n1 ++ .int .i64 99 :: a.drop (n1 + 1)), .list b] ∧ M1 [.int .i64 ((n1 : Int) + 1), .list (a.take n1 ++ .int .i64 99 :: a.drop (n1 + 1)), .list b] < M1 [.int .i64 (n1 : Int), .list a, .list b] := by
        intro hlt
        have e : (a.take n1 ++ D.int .i64 99 :: a.drop (n1 + 1)).length = a.length := by simp only [List.length_append, List.length_take, List.length_cons, List.length_drop]; omega
        refine ⟨(hJ1d _).2 ⟨n1 + 1, _, _, rfl, by omega, by omega, by omega⟩, ?_⟩
        rw [hM1d, hM1d]
        show (a.take n1 ++ D.int .i64 99 :: a.drop (n1 + 1)).length - ((n1 : Int) + 1).toNat < a.length - (n1 : Int).toNat
        omega
      simp only [List.length_cons, List.length_nil, List.getElem?_cons_zero, List.getElem?_cons_succ, Option.getD_some, toI_int, toL_list, hw1, Int.toNat_natCast]
      simp (config := { decide := true }) only [if_true]
      simp only [toI_int, toL_list, hw1, Int.toNat_natCast]
      refine ⟨fun hlt => ⟨⟨by omega, hlt⟩, hag1 (by omega)⟩, fun hge => ?_⟩
      obtain ⟨J2, hJ2d⟩ : ∃ J : List D → Prop, ∀ xs, J xs ↔ ∃ (n : Nat) (a b : List D), xs = [.int .i64 n, .list a, .list b] ∧ n ≤ b.length ∧ a.length ≤ 2097152 ∧ b.length ≤ 2097152 := ⟨_, fun _ => Iff.rfl⟩
      obtain ⟨M2, hM2d⟩ : ∃ M : List D → Nat, ∀ xs, M xs = (xs.getD 2 .top).toL.length - (I (.list xs) 0).toNat := ⟨_, fun _ => rfl⟩
      refine LoopOk.intro J2 M2 ((hJ2d _).2 ⟨0, a, b, rfl, Nat.zero_le _, h2a, h3a⟩) ?_
      intro xs hxs hJ
      obtain ⟨n2, c, d, rfl, h1c, h2c, h3c⟩ := (hJ2d _).1 hJ
      clear hJ hxs
      have hw2 : IntKind.wrap .i64 ((n2 : Int) + 1) = (n2 : Int) + 1 := wrap64 (by omega) (by omega)
      have hag2 : n2 < d.length → J2 [.int .i64 ((n2 : Int) + 1), .list c, .list (d.take n2 ++ .int .i64 99 :: d.drop (n2 + 1))] ∧ M2 [.int .i64 ((n2 : Int) + 1), .list c, .list (d.take n2 ++ .int .i64 99 :: d.drop (n2 + 1))] < M2 [.int .i64 (n2 : Int), .list c, .list d] := by
        intro hlt
        have e : (d.take n2 ++ D.int .i64 99 :: d.drop (n2 + 1)).length = d.length := by simp only [List.length_append, List.length_take, List.length_cons, List.length_drop]; omega
        refine ⟨(hJ2d _).2 ⟨n2 + 1, _, _, rfl, by omega, by omega, by omega⟩, ?_⟩
        rw [hM2d, hM2d]
        show (d.take n2 ++ D.int .i64 99 :: d.drop (n2 + 1)).length - ((n2 : Int) + 1).toNat < d.length - (n2 : Int).toNat
        omega
      simp only [List.length_cons, List.length_nil, List.getElem?_cons_zero, List.getElem?_cons_succ, Option.getD_some, toI_int, toL_list, hw2, Int.toNat_natCast]
      simp (config := { decide := true }) only [if_true]
      simp only [toI_int, toL_list, hw2, Int.toNat_natCast]
      exact fun hlt => ⟨⟨by omega, hlt⟩, hag2 (by omega)⟩
    · have hb : (woF va x).length + (woF la x).length ≤ 17592186044415 := by omega
      simp [vc5, vh_obl, vh_call, vh_room, vh_branch, vh_loop, vh_again, vh_ret, updV, den, U.den, B.den, upd, condB, toL_list, toL_agg, toL_tup, toL_ptr, toL_fn, toI_int, toB_bool, List.getElem?_map, Option.map_some, Option.getD_some, List.length_map, pre, hAdd, hPro, hRem, hMay, hSin, hVot, hSam, hSamR, hInR, hMem, hLiv, hR, cf_def, toI_int, hva1, hla1, hr, h8, h9, h10, ha, h1, h2, h3, h4, h5, h6, h7]
      refine ⟨by rw [vo_cf, lr_cf]; omega, ?_⟩
      have hv0 : (((woF va x).map (D.int .i64))).length ≤ 2097152 := by rw [List.length_map]; omega
      have hl0 : (((woF la x).map (D.int .i64))).length ≤ 2097152 := by rw [List.length_map]; omega
      obtain ⟨J1, hJ1d⟩ : ∃ J : List D → Prop, ∀ xs, J xs ↔ ∃ (n : Nat) (a b : List D), xs = [.int .i64 n, .list a, .list b] ∧ n ≤ a.length ∧ a.length ≤ 2097152 ∧ b.length ≤ 2097152 := ⟨_, fun _ => Iff.rfl⟩
      obtain ⟨M1, hM1d⟩ : ∃ M : List D → Nat, ∀ xs, M xs = (xs.getD 1 .top).toL.length - (I (.list xs) 0).toNat := ⟨_, fun _ => rfl⟩
      refine LoopOk.intro J1 M1 ((hJ1d _).2 ⟨0, ((woF va x).map (D.int .i64)), ((woF la x).map (D.int .i64)), rfl, Nat.zero_le _, hv0, hl0⟩) ?_
      intro xs hxs hJ
      obtain ⟨n1, a, b, rfl, h1a, h2a, h3a⟩ := (hJ1d _).1 hJ
      clear hJ hxs
      have hw1 : IntKind.wrap .i64 ((n1 : Int) + 1) = (n1 : Int) + 1 := wrap64 (by omega) (by omega)
      have hag1 : n1 < a.length → J1 [.int .i64 ((n1 : Int) + 1), .list (a.take n1 ++ .int .i64 99 :: a.drop (n1 + 1)), .list b] ∧ M1 [.int .i64 ((n1 : Int) + 1), .list (a.take n1 ++ .int .i64 99 :: a.drop (n1 + 1)), .list b] < M1 [.int .i64 (n1 : Int), .list a, .list b] := by
        intro hlt
        have e : (a.take n1 ++ D.int .i64 99 :: a.drop (n1 + 1)).length = a.length := by simp only [List.length_append, List.length_take, List.length_cons, List.length_drop]; omega
        refine ⟨(hJ1d _).2 ⟨n1 + 1, _, _, rfl, by omega, by omega, by omega⟩, ?_⟩
        rw [hM1d, hM1d]
        show (a.take n1 ++ D.int .i64 99 :: a.drop (n1 + 1)).length - ((n1 : Int) + 1).toNat < a.length - (n1 : Int).toNat
        omega
      simp only [List.length_cons, List.length_nil, List.getElem?_cons_zero, List.getElem?_cons_succ, Option.getD_some, toI_int, toL_list, hw1, Int.toNat_natCast]
      simp (config := { decide := true }) only [if_true]
      simp only [toI_int, toL_list, hw1, Int.toNat_natCast]
      refine ⟨fun hlt => ⟨⟨by omega, hlt⟩, hag1 (by omega)⟩, fun hge => ?_⟩
      obtain ⟨J2, hJ2d⟩ : ∃ J : List D → Prop, ∀ xs, J xs ↔ ∃ (n : Nat) (a b : List D), xs = [.int .i64 n, .list a, .list b] ∧ n ≤ b.length ∧ a.length ≤ 2097152 ∧ b.length ≤ 2097152 := ⟨_, fun _ => Iff.rfl⟩
      obtain ⟨M2, hM2d⟩ : ∃ M : List D → Nat, ∀ xs, M xs = (xs.getD 2 .top).toL.length - (I (.list xs) 0).toNat := ⟨_, fun _ => rfl⟩
      refine LoopOk.intro J2 M2 ((hJ2d _).2 ⟨0, a, b, rfl, Nat.zero_le _, h2a, h3a⟩) ?_
      intro xs hxs hJ
      obtain ⟨n2, c, d, rfl, h1c, h2c, h3c⟩ := (hJ2d _).1 hJ
      clear hJ hxs
      have hw2 : IntKind.wrap .i64 ((n2 : Int) + 1) = (n2 : Int) + 1 := wrap64 (by omega) (by omega)
      have hag2 : n2 < d.length → J2 [.int .i64 ((n2 : Int) + 1), .list c, .list (d.take n2 ++ .int .i64 99 :: d.drop (n2 + 1))] ∧ M2 [.int .i64 ((n2 : Int) + 1), .list c, .list (d.take n2 ++ .int .i64 99 :: d.drop (n2 + 1))] < M2 [.int .i64 (n2 : Int), .list c, .list d] := by
        intro hlt
        have e : (d.take n2 ++ D.int .i64 99 :: d.drop (n2 + 1)).length = d.length := by simp only [List.length_append, List.length_take, List.length_cons, List.length_drop]; omega
        refine ⟨(hJ2d _).2 ⟨n2 + 1, _, _, rfl, by omega, by omega, by omega⟩, ?_⟩
        rw [hM2d, hM2d]
        show (d.take n2 ++ D.int .i64 99 :: d.drop (n2 + 1)).length - ((n2 : Int) + 1).toNat < d.length - (n2 : Int).toNat
        omega
      simp only [List.length_cons, List.length_nil, List.getElem?_cons_zero, List.getElem?_cons_succ, Option.getD_some, toI_int, toL_list, hw2, Int.toNat_natCast]
      simp (config := { decide := true }) only [if_true]
      simp only [toI_int, toL_list, hw2, Int.toNat_natCast]
      exact fun hlt => ⟨⟨by omega, hlt⟩, hag2 (by omega)⟩
theorem con5 : Con Try.prog pre phi tb5 := con_cons c5 con4

end Go.Proofs.Ytcmejjgjkjiggab
