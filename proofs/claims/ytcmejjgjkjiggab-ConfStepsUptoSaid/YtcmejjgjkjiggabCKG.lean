/-
  What each function of this seat computes, and that it keeps to it (KG).
-/
import Derived.Test.YtcmejjgjkjiggabCK
import Derived.Test.YtcmejjgjkjiggabL
set_option linter.unusedSimpArgs false
set_option linter.unusedVariables false
namespace Go.Proofs.Ytcmejjgjkjiggab
open Go Go.Eng Go.Proofs

set_option maxHeartbeats 2000000 in
theorem c4 : PureFn Try.prog 4 s4 (pre 4) (phi 4) := by
  refine pureFn_auto (given := []) mix con3 Try.func4 (by kernel_rfl) (v := vc4) (by kernel_rfl) ?_
  intro ds h hp
  obtain ⟨_, _, rfl, ga, _, _, rfl, gx, rfl⟩ := h
  obtain ⟨va, la, rfl, hva, hkva, hla, hkla⟩ := confD ga
  obtain ⟨x, rfl, hx⟩ := has_int.1 gx
  rw [inK64] at hx

  have hR : phi 4 [.agg [.list (va.map (D.int .i64)), .list (la.map (D.int .i64))], .int .i64 x] = .bool true := rfl
  simp [vc4, vh_obl, vh_call, vh_room, vh_branch, vh_loop, vh_again, vh_ret, updV, den, U.den, B.den, upd, condB, toL_list, toL_agg, toL_tup, toL_ptr, toL_fn, toI_int, toB_bool, List.getElem?_map, Option.map_some, Option.getD_some, List.length_map, pre, hMay, hLiv, hR]
  intro hmay
  refine ⟨fun hx0 => ?_, fun hx0 => ?_⟩
  · have e1 : IntKind.wrap .i64 (x + 1) = x + 1 := wrap64 (by omega) (by omega)
    have e2 : IntKind.wrap .i64 (-(x + 1)) = -(x + 1) := wrap64 (by omega) (by omega)
    have t1 : 0 ≤ (-(x + 1)).tmod 5 := Int.tmod_nonneg _ (by omega)
    have t2 : (-(x + 1)).tmod 5 < 5 := Int.tmod_lt_of_pos _ (by omega)
    have e3 : IntKind.wrap .i64 (1 + (-(x + 1)).tmod 5) = 1 + (-(x + 1)).tmod 5 := wrap64 (by omega) (by omega)
    simp only [e1, e2, e3]
    generalize hq : 1 + (-(x + 1)).tmod 5 = q
    have hq1 : 1 ≤ q ∧ q ≤ 5 := by rw [← hq]; omega
    obtain ⟨J, hJd⟩ : ∃ J : List D → Prop, ∀ xs, J xs ↔ ∃ (s : Nat) (v l : List Int), xs = [.bool false, .int .i64 s, .list (v.map (D.int .i64)), .list (l.map (D.int .i64))] ∧ 1 ≤ s ∧ s ≤ 6 ∧ mayC v l = true ∧ ∀ k : Int, 1 ≤ k → k < s → k ∈ v := ⟨_, fun _ => Iff.rfl⟩
    obtain ⟨M, hMd⟩ : ∃ M : List D → Nat, ∀ xs, M xs = 6 - (I (.list xs) 1).toNat := ⟨_, fun _ => rfl⟩
    refine LoopOk.intro J M ((hJd _).2 ⟨1, va, la, rfl, Nat.le_refl _, by omega, hmay, fun k h1 h2 => by omega⟩) ?_
    intro xs hxs hJ
    obtain ⟨s, v, l, rfl, hs1, hs6, hm, hall⟩ := (hJd _).1 hJ
    clear hJ hxs
    by_cases hs : s = 6
    · subst hs
      obtain ⟨rfl, rfl⟩ := all_five hm (fun k h1 h2 => hall k h1 (by omega))
      have hn5 : ¬ ((6 : Nat) : Int) ≤ 5 := by omega
      rw [← fv_one q]
      simp [toI_int, toL_list]
      obtain ⟨J2, hJd2⟩ : ∃ J : List D → Prop, ∀ xs, J xs ↔ ∃ (n : Nat), xs = [.bool false, .int .i64 n, .list ((fv n q).map (D.int .i64)), .list []] ∧ 1 ≤ n ∧ n ≤ 6 := ⟨_, fun _ => Iff.rfl⟩
      obtain ⟨M2, hMd2⟩ : ∃ M : List D → Nat, ∀ xs, M xs = 6 - (I (.list xs) 1).toNat := ⟨_, fun _ => rfl⟩
      refine LoopOk.intro J2 M2 ((hJd2 _).2 ⟨1, rfl, Nat.le_refl _, by omega⟩) ?_
      intro xs hxs hJ
      obtain ⟨n, rfl, hn1, hn6⟩ := (hJd2 _).1 hJ
      clear hJ hxs
      have hR3 : ∀ (w : List Int) (b : Int), phi 13 [.agg [.list (w.map (D.int .i64)), .list []], .int .i64 b] = remF w [] b := fun w b => hRem [] w b
      have hM3 : ∀ (w : List Int), phi 16 [.agg [.list (w.map (D.int .i64)), .list []]] = .bool (mayC w []) := fun w => hMay [] w
      have hS3 : ∀ (w y : List Int), phi 6 [.agg [.list (w.map (D.int .i64)), .list []], .agg [.list (y.map (D.int .i64)), .list []]] = .bool (sinF w [] y []) := fun w y => hSin [] [] w y
      by_cases hn : n = 6
      · subst hn
        have he : fv ((6 : Nat) : Int) q = [q] := fv_end hq1.1 hq1.2
        rw [he]
        have hR1 : phi 13 [.agg [.list [.int .i64 q], .list []], .int .i64 q] = err := by have := hRem [] [q] q; rw [rem_last] at this; exact this
        simp [toI_int, toL_list, toB_bool, toL_tup, toL_agg, hq, hR1, err, hLiv, hR, cf]
      · have hle : (n : Int) ≤ 5 := by omega
        have hn5 : ¬ (5 : Int) < n := by omega
        have hw1 : IntKind.wrap .i64 ((n : Int) + 1) = (n : Int) + 1 := wrap64 (by omega) (by omega)
        have hme : 6 - ((n : Int) + 1).toNat < 6 - (n : Int).toNat := by omega
        have hag : ∀ w : List Int, w = fv ((n : Int) + 1) q → J2 [.bool false, .int .i64 ((n : Int) + 1), .list (w.map (D.int .i64)), .list []] ∧ M2 [.bool false, .int .i64 ((n : Int) + 1), .list (w.map (D.int .i64)), .list []] < M2 [.bool false, .int .i64 (n : Int), .list ((fv n q).map (D.int .i64)), .list []] := by
          rintro w rfl
          exact ⟨(hJd2 _).2 ⟨n + 1, rfl, by omega, by omega⟩, by rw [hMd2, hMd2]; exact hme⟩
        by_cases hnq : (n : Int) = q
        · have := hag (fv n q) (by rw [← hnq]; exact fv_skip)
          rw [hnq] at this
          have hw1q : IntKind.wrap .i64 (q + 1) = q + 1 := wrap64 (by omega) (by omega)
          simp [toI_int, toL_list, hle, hn5, hw1q, hq, hnq]
          exact ⟨fun _ => this, fun h => by omega⟩
        · have hst := fv_step hnq
          obtain ⟨g1, g2, g3⟩ := rem_ok (s := n) (fv_may (n := n) hq1.1 hq1.2) (mem_fv.2 ⟨⟨by omega, hle⟩, .inl (Int.le_refl _)⟩) (by rw [hst]; exact fv_ne hq1.1 hq1.2)
          rw [hst] at g1 g2 g3
          have := hag _ rfl
          simp [toI_int, toL_list, toB_bool, toL_tup, toL_agg, hle, hn5, hw1, hq, hnq, hR3, g1, cf, hS3, hM3, woF] at g2 g3 ⊢
          exact ⟨⟨g3, g2⟩, fun _ _ => this⟩
    · have hle : (s : Int) ≤ 5 := by omega
      have hn5 : ¬ (5 : Int) < s := by omega
      have hw1 : IntKind.wrap .i64 ((s : Int) + 1) = (s : Int) + 1 := wrap64 (by omega) (by omega)
      have hme : 6 - ((s : Int) + 1).toNat < 6 - (s : Int).toNat := by omega
      have hag : ∀ w r : List Int, mayC w r = true → (∀ k : Int, 1 ≤ k → k < (s : Int) + 1 → k ∈ w) → J [.bool false, .int .i64 ((s : Int) + 1), .list (w.map (D.int .i64)), .list (r.map (D.int .i64))] ∧ M [.bool false, .int .i64 ((s : Int) + 1), .list (w.map (D.int .i64)), .list (r.map (D.int .i64))] < M [.bool false, .int .i64 (s : Int), .list (v.map (D.int .i64)), .list (l.map (D.int .i64))] := by
        intro w r h1 h2
        exact ⟨(hJd _).2 ⟨s + 1, w, r, rfl, by omega, by omega, h1, fun k k1 k2 => h2 k k1 (by omega)⟩, by rw [hMd, hMd]; exact hme⟩
      have hup : ∀ w : List Int, (∀ x, x ∈ v → x ∈ w) → (s : Int) ∈ w → ∀ k : Int, 1 ≤ k → k < (s : Int) + 1 → k ∈ w := fun w h1 h2 k k1 k2 => by
        by_cases e : k = s
        · rw [e]; exact h2
        · exact h1 k (hall k k1 (by omega))
      by_cases hv : (s : Int) ∈ v
      · obtain ⟨g1, g2⟩ := grow_in hm hv
        have := hag v l hm (hup v (fun _ h => h) hv)
        simp [toI_int, toL_list, toB_bool, toL_tup, toL_agg, hle, hn5, hw1, hAdd, g1, hPro, g2, err, hVot, hv]
        exact this
      · by_cases hl : (s : Int) ∈ l
        · obtain ⟨g1, g2, g3, g4⟩ := grow_learn hm hl
          have hin : (s : Int) ∈ withF v s := mem_withF.2 (.inr rfl)
          have := hag _ _ g3 (hup _ (fun _ h => mem_withF.2 (.inl h)) hin)
          simp [toI_int, toL_list, toB_bool, toL_tup, toL_agg, hle, hn5, hw1, hAdd, g1, hPro, g2, err, cf, hVot, hin, hSin, g4]
          exact this
        · obtain ⟨a1, a2, a3⟩ := grow_new hm (by omega) hle hv hl
          obtain ⟨_, g2, g3, g4⟩ := grow_learn a2 a3
          have hin : (s : Int) ∈ withF v s := mem_withF.2 (.inr rfl)
          have := hag _ _ g3 (hup _ (fun _ h => mem_withF.2 (.inl h)) hin)
          simp [toI_int, toL_list, toB_bool, toL_tup, toL_agg, hle, hn5, hw1, hAdd, a1, hPro, g2, err, cf, hVot, hin, hSin, g4]
          exact this
  · have t1 : 0 ≤ x.tmod 5 := Int.tmod_nonneg _ (by omega)
    have t2 : x.tmod 5 < 5 := Int.tmod_lt_of_pos _ (by omega)
    have e3 : IntKind.wrap .i64 (1 + x.tmod 5) = 1 + x.tmod 5 := wrap64 (by omega) (by omega)
    simp only [e3]
    generalize hq : 1 + x.tmod 5 = q
    have hq1 : 1 ≤ q ∧ q ≤ 5 := by rw [← hq]; omega
    obtain ⟨J, hJd⟩ : ∃ J : List D → Prop, ∀ xs, J xs ↔ ∃ (s : Nat) (v l : List Int), xs = [.bool false, .int .i64 s, .list (v.map (D.int .i64)), .list (l.map (D.int .i64))] ∧ 1 ≤ s ∧ s ≤ 6 ∧ mayC v l = true ∧ ∀ k : Int, 1 ≤ k → k < s → k ∈ v := ⟨_, fun _ => Iff.rfl⟩
    obtain ⟨M, hMd⟩ : ∃ M : List D → Nat, ∀ xs, M xs = 6 - (I (.list xs) 1).toNat := ⟨_, fun _ => rfl⟩
    refine LoopOk.intro J M ((hJd _).2 ⟨1, va, la, rfl, Nat.le_refl _, by omega, hmay, fun k h1 h2 => by omega⟩) ?_
    intro xs hxs hJ
    obtain ⟨s, v, l, rfl, hs1, hs6, hm, hall⟩ := (hJd _).1 hJ
    clear hJ hxs
    by_cases hs : s = 6
    · subst hs
      obtain ⟨rfl, rfl⟩ := all_five hm (fun k h1 h2 => hall k h1 (by omega))
      have hn5 : ¬ ((6 : Nat) : Int) ≤ 5 := by omega
      rw [← fv_one q]
      simp [toI_int, toL_list]
      obtain ⟨J2, hJd2⟩ : ∃ J : List D → Prop, ∀ xs, J xs ↔ ∃ (n : Nat), xs = [.bool false, .int .i64 n, .list ((fv n q).map (D.int .i64)), .list []] ∧ 1 ≤ n ∧ n ≤ 6 := ⟨_, fun _ => Iff.rfl⟩
      obtain ⟨M2, hMd2⟩ : ∃ M : List D → Nat, ∀ xs, M xs = 6 - (I (.list xs) 1).toNat := ⟨_, fun _ => rfl⟩
      refine LoopOk.intro J2 M2 ((hJd2 _).2 ⟨1, rfl, Nat.le_refl _, by omega⟩) ?_
      intro xs hxs hJ
      obtain ⟨n, rfl, hn1, hn6⟩ := (hJd2 _).1 hJ
      clear hJ hxs
      have hR3 : ∀ (w : List Int) (b : Int), phi 13 [.agg [.list (w.map (D.int .i64)), .list []], .int .i64 b] = remF w [] b := fun w b => hRem [] w b
      have hM3 : ∀ (w : List Int), phi 16 [.agg [.list (w.map (D.int .i64)), .list []]] = .bool (mayC w []) := fun w => hMay [] w
      have hS3 : ∀ (w y : List Int), phi 6 [.agg [.list (w.map (D.int .i64)), .list []], .agg [.list (y.map (D.int .i64)), .list []]] = .bool (sinF w [] y []) := fun w y => hSin [] [] w y
      by_cases hn : n = 6
      · subst hn
        have he : fv ((6 : Nat) : Int) q = [q] := fv_end hq1.1 hq1.2
        rw [he]
        have hR1 : phi 13 [.agg [.list [.int .i64 q], .list []], .int .i64 q] = err := by have := hRem [] [q] q; rw [rem_last] at this; exact this
        simp [toI_int, toL_list, toB_bool, toL_tup, toL_agg, hq, hR1, err, hLiv, hR, cf]
      · have hle : (n : Int) ≤ 5 := by omega
        have hn5 : ¬ (5 : Int) < n := by omega
        have hw1 : IntKind.wrap .i64 ((n : Int) + 1) = (n : Int) + 1 := wrap64 (by omega) (by omega)
        have hme : 6 - ((n : Int) + 1).toNat < 6 - (n : Int).toNat := by omega
        have hag : ∀ w : List Int, w = fv ((n : Int) + 1) q → J2 [.bool false, .int .i64 ((n : Int) + 1), .list (w.map (D.int .i64)), .list []] ∧ M2 [.bool false, .int .i64 ((n : Int) + 1), .list (w.map (D.int .i64)), .list []] < M2 [.bool false, .int .i64 (n : Int), .list ((fv n q).map (D.int .i64)), .list []] := by
          rintro w rfl
          exact ⟨(hJd2 _).2 ⟨n + 1, rfl, by omega, by omega⟩, by rw [hMd2, hMd2]; exact hme⟩
        by_cases hnq : (n : Int) = q
        · have := hag (fv n q) (by rw [← hnq]; exact fv_skip)
          rw [hnq] at this
          have hw1q : IntKind.wrap .i64 (q + 1) = q + 1 := wrap64 (by omega) (by omega)
          simp [toI_int, toL_list, hle, hn5, hw1q, hq, hnq]
          exact ⟨fun _ => this, fun h => by omega⟩
        · have hst := fv_step hnq
          obtain ⟨g1, g2, g3⟩ := rem_ok (s := n) (fv_may (n := n) hq1.1 hq1.2) (mem_fv.2 ⟨⟨by omega, hle⟩, .inl (Int.le_refl _)⟩) (by rw [hst]; exact fv_ne hq1.1 hq1.2)
          rw [hst] at g1 g2 g3
          have := hag _ rfl
          simp [toI_int, toL_list, toB_bool, toL_tup, toL_agg, hle, hn5, hw1, hq, hnq, hR3, g1, cf, hS3, hM3, woF] at g2 g3 ⊢
          exact ⟨⟨g3, g2⟩, fun _ _ => this⟩
    · have hle : (s : Int) ≤ 5 := by omega
      have hn5 : ¬ (5 : Int) < s := by omega
      have hw1 : IntKind.wrap .i64 ((s : Int) + 1) = (s : Int) + 1 := wrap64 (by omega) (by omega)
      have hme : 6 - ((s : Int) + 1).toNat < 6 - (s : Int).toNat := by omega
      have hag : ∀ w r : List Int, mayC w r = true → (∀ k : Int, 1 ≤ k → k < (s : Int) + 1 → k ∈ w) → J [.bool false, .int .i64 ((s : Int) + 1), .list (w.map (D.int .i64)), .list (r.map (D.int .i64))] ∧ M [.bool false, .int .i64 ((s : Int) + 1), .list (w.map (D.int .i64)), .list (r.map (D.int .i64))] < M [.bool false, .int .i64 (s : Int), .list (v.map (D.int .i64)), .list (l.map (D.int .i64))] := by
        intro w r h1 h2
        exact ⟨(hJd _).2 ⟨s + 1, w, r, rfl, by omega, by omega, h1, fun k k1 k2 => h2 k k1 (by omega)⟩, by rw [hMd, hMd]; exact hme⟩
      have hup : ∀ w : List Int, (∀ x, x ∈ v → x ∈ w) → (s : Int) ∈ w → ∀ k : Int, 1 ≤ k → k < (s : Int) + 1 → k ∈ w := fun w h1 h2 k k1 k2 => by
        by_cases e : k = s
        · rw [e]; exact h2
        · exact h1 k (hall k k1 (by omega))
      by_cases hv : (s : Int) ∈ v
      · obtain ⟨g1, g2⟩ := grow_in hm hv
        have := hag v l hm (hup v (fun _ h => h) hv)
        simp [toI_int, toL_list, toB_bool, toL_tup, toL_agg, hle, hn5, hw1, hAdd, g1, hPro, g2, err, hVot, hv]
        exact this
      · by_cases hl : (s : Int) ∈ l
        · obtain ⟨g1, g2, g3, g4⟩ := grow_learn hm hl
          have hin : (s : Int) ∈ withF v s := mem_withF.2 (.inr rfl)
          have := hag _ _ g3 (hup _ (fun _ h => mem_withF.2 (.inl h)) hin)
          simp [toI_int, toL_list, toB_bool, toL_tup, toL_agg, hle, hn5, hw1, hAdd, g1, hPro, g2, err, cf, hVot, hin, hSin, g4]
          exact this
        · obtain ⟨a1, a2, a3⟩ := grow_new hm (by omega) hle hv hl
          obtain ⟨_, g2, g3, g4⟩ := grow_learn a2 a3
          have hin : (s : Int) ∈ withF v s := mem_withF.2 (.inr rfl)
          have := hag _ _ g3 (hup _ (fun _ h => mem_withF.2 (.inl h)) hin)
          simp [toI_int, toL_list, toB_bool, toL_tup, toL_agg, hle, hn5, hw1, hAdd, a1, hPro, g2, err, cf, hVot, hin, hSin, g4]
          exact this
theorem con4 : Con Try.prog pre phi tb4 := con_cons c4 con3

end Go.Proofs.Ytcmejjgjkjiggab
