/-
  What each function of this seat computes, and that it keeps to it (A).
-/
import Derived.Test.YtgljfheohnlpfaaF
set_option linter.unusedSimpArgs false
set_option linter.unusedVariables false
namespace Go.Proofs.Ytgljfheohnlpfaa
open Go Go.Eng Go.Proofs

theorem c23 : PureFn Try.prog 23 s23 (pre 23) (phi 23) := by
  refine pureFn_auto (given := []) mix (con_nil (Φ := phi) (Pre := pre)) Try.func23 (by kernel_rfl) (v := vc23) (by kernel_rfl) ?_
  intro ds h hp
  obtain ⟨a, _, rfl, ⟨a, rfl, ha⟩, b, _, rfl, ⟨b, rfl, hb⟩, c, _, rfl, ⟨c, rfl, hc⟩, rfl⟩ := h
  simp [vc23, vh_obl, vh_call, vh_room, vh_branch, vh_loop, vh_again, vh_ret, den, B.den, phi, inR, toI_int, toB_bool]
theorem con23 : Con Try.prog pre phi tb23 := con_cons c23 con_nil

theorem c9 : PureFn Try.prog 9 s9 (pre 9) (phi 9) := by
  refine objFn_auto (given := []) mix con23 Try.func9 rfl (by kernel_rfl) (v := vc9) (by kernel_rfl) ?_
  intro ds h hp
  obtain ⟨_, _, rfl, ⟨i, rfl, hi⟩, _, _, rfl, ⟨t, rfl, ht⟩, rfl⟩ := h
  obtain ⟨hp1, hp2⟩ := hp
  replace hp1 : okB i t = true := hp1
  replace hp2 : i = 0 ↔ t = 0 := hp2
  obtain ⟨h1, h2, h3, h4⟩ := okB_iff.1 hp1
  have hw : ∀ n : Int, phi 23 [.int .i64 n, .int .i64 0, .int .i64 1099511627776] = .bool (inR n 0 1099511627776) := fun _ => rfl
  simp only [MX] at h2 h4
  have e : (i == 0) = (t == 0) := by rw [Bool.eq_iff_iff]; simpa using hp2
  simp [vc9, vh_obl, vh_call, vh_room, vh_branch, vh_loop, vh_again, vh_ret, vh_stuck, updV, den, U.den, B.den, upd, condB, toL_list, toL_agg, toL_tup, toL_ptr, toL_fn, toI_int, toB_bool, pre, hw, inR, phi, stD, e]
  omega
theorem con9 : Con Try.prog pre phi tb9 := con_cons c9 con23

theorem c21 : PureFn Try.prog 21 s21 (pre 21) (phi 21) := by
  refine objFn_auto (given := []) mix con9 Try.func21 rfl (by kernel_rfl) (v := vc21) (by kernel_rfl) ?_
  intro ds h hp
  obtain ⟨_, _, rfl, hi, _, _, rfl, ht, _, _, rfl, hL, rfl⟩ := h
  simp [vc21, vh_obl, vh_call, vh_room, vh_branch, vh_loop, vh_again, vh_ret, updV, den, U.den, B.den, upd, condB, toL_list, toL_agg, toL_tup, toL_ptr, toL_fn, toI_int, toB_bool, pre, phi]
theorem con21 : Con Try.prog pre phi tb21 := con_cons c21 con9

theorem c12 : PureFn Try.prog 12 s12 (pre 12) (phi 12) := by
  refine objFn_auto (given := []) mix con21 Try.func12 rfl (by kernel_rfl) (v := vc12) (by kernel_rfl) ?_
  intro ds h hp
  obtain ⟨_, _, rfl, ⟨i, rfl, hi⟩, _, _, rfl, ⟨t, rfl, ht⟩, _, _, rfl, ⟨l, rfl, hlen, hL⟩, rfl⟩ := h
  replace hp : mayB i t l = true := hp
  have hb : phi 21 [.int .i64 i, .int .i64 t, .list l] = .tup [.tup [.int .i64 i, .int .i64 t], .agg [.int .i64 i, .int .i64 t, .list l]] := rfl
  have hR : phi 12 [.int .i64 i, .int .i64 t, .list l] = .tup [.tup [.int .i64 (i + l.length), .int .i64 (lastT t l)], stD i t l] := rfl
  simp [vc12, vh_obl, vh_call, vh_room, vh_branch, vh_loop, vh_again, vh_ret, updV, den, U.den, B.den, upd, condB, toL_list, toL_agg, toL_tup, toL_ptr, toL_fn, toI_int, toB_bool, pre, hb, hR, stD]
  obtain ⟨⟨k1, k2, k3, k4⟩, hc⟩ := mayB_iff.1 hp
  have hl2 := hlen.1
  simp only [maxLen] at hl2
  constructor
  · rintro rfl; simp [lastT]
  · intro hne
    have hpos : 0 < l.length := List.length_pos_iff.2 hne
    rw [wrap64 (by omega) (by omega), show ((l.length : Int) - 1).toNat = l.length - 1 by omega]
    obtain ⟨x, hx⟩ : ∃ x, l[l.length - 1]? = some x := ⟨_, List.getElem?_eq_getElem (by omega)⟩
    obtain ⟨e0, e1, _, _⟩ := ent_at (hL x (List.mem_of_getElem? hx))
    have hg := ch_get hc hx
    rw [hx, Option.getD_some, e0, e1, lastT_get hx, hg.1]
    refine ⟨by omega, ?_, rfl⟩
    congr 1; omega
theorem con12 : Con Try.prog pre phi tb12 := con_cons c12 con21

theorem c13 : PureFn Try.prog 13 s13 (pre 13) (phi 13) := by
  refine objFn_auto (given := []) mix con12 Try.func13 rfl (by kernel_rfl) (v := vc13) (by kernel_rfl) ?_
  intro ds h hp
  obtain ⟨_, _, rfl, ⟨k, rfl, hk⟩, _, _, rfl, ⟨i, rfl, hi⟩, _, _, rfl, ⟨t, rfl, ht⟩, _, _, rfl, ⟨l, rfl, hlen, hL⟩, rfl⟩ := h
  replace hp : mayB i t l = true := hp
  have hR : phi 13 [.int .i64 k, .int .i64 i, .int .i64 t, .list l] = .tup [.tup [.int .i64 (termF i t l k).1, .int .i64 (termF i t l k).2], stD i t l] := rfl
  simp [vc13, vh_obl, vh_call, vh_room, vh_branch, vh_loop, vh_again, vh_ret, updV, den, U.den, B.den, upd, condB, toL_list, toL_agg, toL_tup, toL_ptr, toL_fn, toI_int, toB_bool, pre, hR, stD]
  rw [inK64] at hk
  obtain ⟨⟨k1, k2, k3, k4⟩, hc⟩ := mayB_iff.1 hp
  have hl2 := hlen.1
  simp only [maxLen, MX] at hl2 k2
  refine ⟨fun h => by simp [termF, h], fun h => ⟨fun h2 => by subst h2; simp [termF], fun h2 => ?_⟩⟩
  rw [wrap64 (by omega) (by omega)]
  have h0 : ¬ k < i := by omega
  refine ⟨fun h3 => ?_, fun h3 => ?_⟩
  · have : l[(k - i - 1).toNat]? = none := by rw [List.getElem?_eq_none_iff]; omega
    unfold termF; rw [if_neg h0, if_neg h2, this]; exact ⟨rfl, rfl⟩
  · rw [wrap64 (by omega) (by omega)]
    obtain ⟨x, hx⟩ : ∃ x, l[(k - i - 1).toNat]? = some x := ⟨_, List.getElem?_eq_getElem (by omega)⟩
    obtain ⟨e0, e1, _, _⟩ := ent_at (hL x (List.mem_of_getElem? hx))
    refine ⟨by omega, ?_, ?_⟩
    · rw [hx, Option.getD_some, e1]; unfold termF; rw [if_neg h0, if_neg h2, hx]
    · unfold termF; rw [if_neg h0, if_neg h2, hx]
theorem con13 : Con Try.prog pre phi tb13 := con_cons c13 con12

theorem c15 : PureFn Try.prog 15 s15 (pre 15) (phi 15) := by
  refine objFn_auto (given := []) mix con13 Try.func15 rfl (by kernel_rfl) (v := vc15) (by kernel_rfl) ?_
  intro ds h hp
  obtain ⟨_, _, rfl, ⟨f, rfl, hf⟩, _, _, rfl, ⟨m, rfl, hm⟩, _, _, rfl, ⟨i, rfl, hi⟩, _, _, rfl, ⟨t, rfl, ht⟩, _, _, rfl, ⟨l, rfl, hlen, hL⟩, rfl⟩ := h
  have hR : phi 15 [.int .i64 f, .int .i64 m, .int .i64 i, .int .i64 t, .list l] = .tup [.list (sliceF i l f m), stD i t l] := rfl
  simp [vc15, vh_obl, vh_call, vh_room, vh_branch, vh_loop, vh_again, vh_ret, updV, den, U.den, B.den, upd, condB, toL_list, toL_agg, toL_tup, toL_ptr, toL_fn, toI_int, toB_bool, pre, hR, stD]
  replace hp : okB i t = true := hp
  rw [inK64] at hf hm
  obtain ⟨k1, k2, _, _⟩ := okB_iff.1 hp
  have hl2 := hlen.1
  have hb := hlen.2
  rw [entT_bytes] at hb
  simp only [maxLen, MX] at hl2 k2 ⊢
  refine ⟨?_, fun h1 h2 => ?_⟩
  · intro h
    unfold sliceF
    by_cases hc : m < 1 ∨ f ≤ i
    · rw [if_pos hc]
    · rw [if_neg hc]
      have h' := h.resolve_left hc
      rw [wrap64 (n := f - i) (by omega) (by omega), wrap64 (by omega) (by omega)] at h'
      rw [List.drop_of_length_le (by omega)]; simp
  · rw [wrap64 (n := f - i) (by omega) (by omega), wrap64 (n := f - i - 1) (by omega) (by omega)]
    intro h3
    rw [wrap64 (n := (l.length : Int) - (f - i - 1)) (by omega) (by omega)]
    have es : sliceF i l f m = (l.drop (f - i - 1).toNat).take m.toNat := by unfold sliceF; rw [if_neg (by omega)]
    refine ⟨fun h4 => ?_, fun h4 => ?_⟩
    · rw [wrap64 (n := f - i - 1 + m) (by omega) (by omega)]
      refine ⟨by omega, ⟨by omega, Nat.le_trans (Nat.mul_le_mul_right 320 (by omega)) hb⟩, ?_⟩
      rw [es, List.drop_take]; congr 1; omega
    · refine ⟨by omega, ⟨by omega, Nat.le_trans (Nat.mul_le_mul_right 320 (by omega)) hb⟩, ?_⟩
      rw [es, List.take_of_length_le (by rw [List.length_drop]; omega)]
theorem con15 : Con Try.prog pre phi tb15 := con_cons c15 con13

theorem c24 : PureFn Try.prog 24 s24 (pre 24) (phi 24) := by
  refine pureFn_auto (given := []) mix con15 Try.func24 (by kernel_rfl) (v := vc24) (by kernel_rfl) ?_
  intro ds h hp
  obtain ⟨_, _, rfl, ⟨i, rfl, hi⟩, _, _, rfl, ⟨t, rfl, ht⟩, _, _, rfl, ⟨l, rfl, hlen, hL⟩, rfl⟩ := h
  have hl2 := hlen.1
  simp only [maxLen] at hl2
  have hR : phi 24 [.int .i64 i, .int .i64 t, .list l] = .bool (mayB i t l) := rfl
  have hw : ∀ n lo hi : Int, phi 23 [.int .i64 n, .int .i64 lo, .int .i64 hi] = .bool (inR n lo hi) := fun _ _ _ => rfl
  simp [vc24, vh_obl, vh_call, vh_room, vh_branch, vh_loop, vh_again, vh_ret, updV, den, U.den, B.den, upd, condB, toL_list, toL_agg, toL_tup, toL_ptr, toL_fn, toI_int, toB_bool, pre, hR, hw, inR]
  refine ⟨fun h => ?_, fun h1 h2 h3 h4 => ?_⟩
  · have : okB i t = false := by rw [Bool.eq_false_iff]; intro hk; obtain ⟨k1, k2, k3, k4⟩ := okB_iff.1 hk; simp only [MX] at k2 k4; omega
    simp [mayB, this]
  refine LoopOk.intro (MJ i t l) (FM l 3) ⟨0, i, t, rfl, Nat.zero_le _, okB_iff.2 ⟨h1, h2, h3, h4⟩, rfl⟩ ?_
  intro xs hxs hJ
  obtain ⟨n, j, u, rfl, hle, hok, hf⟩ := hJ
  obtain ⟨k1, k2, k3, k4⟩ := okB_iff.1 hok
  simp only [MX] at k2 k4
  rcases hx : l[n]? with _ | x
  · have hge : l.length ≤ n := by rwa [List.getElem?_eq_none_iff] at hx
    rw [List.drop_of_length_le hge] at hf
    have hlt : ¬ ((n : Int) < l.length) := by omega
    have hm : mayB i t l = true := by simp [mayB, okB_iff.2 ⟨h1, h2, h3, h4⟩, ← hf, chB]
    simp [toI_int, hlt, hm]
  · obtain ⟨hlt, hge⟩ := List.getElem?_eq_some_iff.1 hx
    obtain ⟨e0, e1, r0, r1⟩ := ent_at (hL x (List.mem_of_getElem? hx))
    rw [inK64] at r0 r1
    rw [List.drop_eq_getElem_cons hlt, hge] at hf
    have hlt' : (n : Int) < l.length := by omega
    simp [toI_int, toB_bool, hx, e0, e1, hlt', hw, inR]
    by_cases hk : ix x = j + 1 ∧ u ≤ tm x ∧ ix x ≤ MX ∧ tm x ≤ MX
    · obtain ⟨g1, g2, g3, g4⟩ := hk
      simp only [MX] at g3 g4
      rw [wrap64 (n := ix x - 1) (by omega) (by omega), wrap64 (n := (n : Int) + 1) (by omega) (by omega)]
      refine ⟨⟨fun hq => by omega, fun _ _ _ _ _ _ => ⟨⟨n + 1, ix x, tm x, rfl, hlt, okB_iff.2 ⟨by omega, by simp only [MX]; omega, by omega, by simp only [MX]; omega⟩, ?_⟩, ?_⟩⟩, fun hq => by omega⟩
      · rw [← hf]; simp [chB, g1, g2, MX, show j + 1 ≤ 1099511627776 by omega, show tm x ≤ 1099511627776 by omega]
      · show l.length - ((n : Int) + 1).toNat < l.length - (n : Int).toNat
        omega
    · have hm : mayB i t l = false := by
        simp only [mayB, ← hf, Bool.and_eq_false_iff]
        right
        rw [Bool.eq_false_iff]
        intro hc
        obtain ⟨a1, a2, a3, a4, _⟩ := chB_cons.1 hc
        exact hk ⟨a1, a2, a3, a4⟩
      simp only [MX] at hk
      refine ⟨⟨fun _ => hm, fun w1 w2 w3 w4 w5 w6 => ?_⟩, fun hq => by omega⟩
      exact absurd ⟨by
        by_cases hmin : ix x = -9223372036854775808
        · rw [hmin] at w3; omega
        · rw [wrap64 (n := ix x - 1) (by omega) (by omega)] at w1; omega, w2, w4, w6⟩ hk
theorem con24 : Con Try.prog pre phi tb24 := con_cons c24 con15

theorem c10 : PureFn Try.prog 10 s10 (pre 10) (phi 10) := by
  refine objFn_auto (given := []) mix con24 Try.func10 rfl (by kernel_rfl) (v := vc10) (by kernel_rfl) ?_
  intro ds h hp
  obtain ⟨_, _, rfl, ⟨m, rfl, hm⟩, cm, _, rfl, hcm, _, _, rfl, ⟨i, rfl, hi⟩, _, _, rfl, ⟨t, rfl, ht⟩, _, _, rfl, ⟨l, rfl, hlen, hL⟩, rfl⟩ := h
  obtain ⟨hp, hsm⟩ := hp
  replace hp : mayB i t l = true := hp
  replace hsm : l.length < 4294967296 := hsm
  obtain ⟨⟨k1, k2, k3, k4⟩, hc⟩ := mayB_iff.1 hp
  have hln := ch_len k2 hc
  have he := cmd_eta hcm
  simp only [MX] at hln k2 k4
  have hl : phi 12 [.int .i64 i, .int .i64 t, .list l] = .tup [.tup [.int .i64 (i + l.length), .int .i64 (lastT t l)], stD i t l] := rfl
  have hw : ∀ n lo hi : Int, phi 23 [.int .i64 n, .int .i64 lo, .int .i64 hi] = .bool (inR n lo hi) := fun _ _ _ => rfl
  have hR : phi 10 [.int .i64 m, cm, .int .i64 i, .int .i64 t, .list l] = .tup [.tup [putX i t l m cm, .int .i64 (putC i t l m)], stD i t (putL i t l m cm)] := rfl
  simp [vc10, vh_obl, vh_call, vh_room, vh_branch, vh_loop, vh_again, vh_ret, updV, den, U.den, B.den, upd, condB, toL_list, toL_agg, toL_tup, toL_ptr, toL_fn, toI_int, toB_bool, pre, hl, hR, stD, hp, hw, inR, he]
  have hnl : (l.length + 1 : Nat) ≤ maxLen := by simp only [maxLen]; omega
  refine ⟨fun h => ?_, fun h1 h2 h3 => ⟨fun h4 => ?_, fun h4 => ?_⟩⟩
  · have hC : putC i t l m = 1 := by unfold putC; rw [if_pos (by simp only [MX]; omega)]
    simp [putX, putL, hC, entZ]
  · have hC : putC i t l m = 2 := by unfold putC; rw [if_neg (by simp only [MX]; omega), if_pos (by simp only [MX]; omega)]
    simp [putX, putL, hC, entZ]
  · have hC : putC i t l m = 0 := by unfold putC; rw [if_neg (by simp only [MX]; omega), if_neg (by simp only [MX]; omega)]
    rw [wrap64 (n := i + l.length + 1) (by omega) (by omega)]
    refine ⟨⟨hnl, by omega⟩, ?_⟩
    simp [putX, putL, hC, newE]
theorem con10 : Con Try.prog pre phi tb10 := con_cons c10 con24

theorem c26 : PureFn Try.prog 26 s26 (pre 26) (phi 26) := by
  refine objFn_auto (given := []) mix con10 Try.func26 rfl (by kernel_rfl) (v := vc26) (by kernel_rfl) ?_
  intro ds h hp
  obtain ⟨_, _, rfl, ⟨x, rfl, hx⟩, _, _, rfl, ⟨y, rfl, hy⟩, _, _, rfl, ⟨i, rfl, hi⟩, _, _, rfl, ⟨t, rfl, ht⟩, _, _, rfl, ⟨l, rfl, hlen, hL⟩, rfl⟩ := h
  replace hp : mayB i t l = true := hp
  have hl : phi 12 [.int .i64 i, .int .i64 t, .list l] = .tup [.tup [.int .i64 (i + l.length), .int .i64 (lastT t l)], stD i t l] := rfl
  have hR : phi 26 [.int .i64 x, .int .i64 y, .int .i64 i, .int .i64 t, .list l] = .tup [.bool (newerF i t l x y), stD i t l] := rfl
  simp [vc26, vh_obl, vh_call, vh_room, vh_branch, vh_loop, vh_again, vh_ret, updV, den, U.den, B.den, upd, condB, toL_list, toL_agg, toL_tup, toL_ptr, toL_fn, toI_int, toB_bool, pre, hl, hR, stD, hp, newerF]
  rw [Bool.eq_iff_iff]
  simp
theorem con26 : Con Try.prog pre phi tb26 := con_cons c26 con10

theorem c22 : PureFn Try.prog 22 s22 (pre 22) (phi 22) := by
  refine objFn_auto (given := []) mix con26 Try.func22 rfl (by kernel_rfl) (v := vc22) (by kernel_rfl) ?_
  intro ds h hp
  obtain ⟨_, _, rfl, ⟨k, rfl, hk⟩, _, _, rfl, ⟨i, rfl, hi⟩, _, _, rfl, ⟨t, rfl, ht⟩, _, _, rfl, ⟨l, rfl, hlen, hL⟩, rfl⟩ := h
  replace hp : mayB i t l = true := hp
  rw [inK64] at hk
  obtain ⟨⟨k1, k2, k3, k4⟩, hc⟩ := mayB_iff.1 hp
  have hln := ch_len k2 hc
  have hl2 := hlen.1
  have hb := hlen.2
  rw [entT_bytes] at hb
  simp only [MX] at hln k2 k4
  have hl : phi 12 [.int .i64 i, .int .i64 t, .list l] = .tup [.tup [.int .i64 (i + l.length), .int .i64 (lastT t l)], stD i t l] := rfl
  have hT : ∀ k : Int, phi 13 [.int .i64 k, .int .i64 i, .int .i64 t, .list l] = .tup [.tup [.int .i64 (termF i t l k).1, .int .i64 (termF i t l k).2], stD i t l] := fun _ => rfl
  have hR : phi 22 [.int .i64 k, .int .i64 i, .int .i64 t, .list l] = .tup [.int .i64 (compC i l k), stD (compS i t l k).1 (compS i t l k).2.1 (compS i t l k).2.2] := rfl
  simp [vc22, vh_obl, vh_call, vh_room, vh_branch, vh_loop, vh_again, vh_ret, updV, den, U.den, B.den, upd, condB, toL_list, toL_agg, toL_tup, toL_ptr, toL_fn, toI_int, toB_bool, pre, hl, hT, hR, stD, hp]
  refine ⟨fun h => by simp [compC, compS, h], fun h => ⟨fun h2 => by simp [compC, compS, show ¬ (i + l.length < k) by omega, h2], fun h2 => ?_⟩⟩
  rw [wrap64 (n := k - i) (by omega) (by omega)]
  have e : compS i t l k = (k, (termF i t l k).1, l.drop (k - i).toNat) := by unfold compS; rw [if_neg (by omega)]
  refine ⟨by omega, ⟨Nat.le_trans hl2 (Nat.le_add_right _ _), Nat.le_trans (Nat.mul_le_mul_right 320 (by omega)) hb⟩, by unfold compC; rw [if_neg (by omega)], by rw [e], by rw [e], by rw [e]⟩
theorem con22 : Con Try.prog pre phi tb22 := con_cons c22 con26

theorem c14 : PureFn Try.prog 14 s14 (pre 14) (phi 14) := by
  refine objFn_auto (given := []) mix con22 Try.func14 rfl (by kernel_rfl) (v := vc14) (by kernel_rfl) ?_
  intro ds h hp
  obtain ⟨_, _, rfl, ⟨pi, rfl, hpi⟩, _, _, rfl, ⟨pt, rfl, hpt⟩, _, _, rfl, ⟨es, rfl, helen, heL⟩, _, _, rfl, ⟨i, rfl, hi⟩, _, _, rfl, ⟨t, rfl, ht⟩, _, _, rfl, ⟨l, rfl, hlen, hL⟩, rfl⟩ := h
  obtain ⟨hp, hsm, hse⟩ := hp
  replace hp : mayB i t l = true := hp
  replace hsm : l.length < 4294967296 := hsm
  replace hse : es.length < 4294967296 := hse
  obtain ⟨⟨k1, k2, k3, k4⟩, hc⟩ := mayB_iff.1 hp
  have hln := ch_len k2 hc
  simp only [MX] at hln k2 k4
  have hm : phi 24 [.int .i64 pi, .int .i64 pt, .list es] = .bool (mayB pi pt es) := rfl
  have hT : ∀ k : Int, phi 13 [.int .i64 k, .int .i64 i, .int .i64 t, .list l] = .tup [.tup [.int .i64 (termF i t l k).1, .int .i64 (termF i t l k).2], stD i t l] := fun _ => rfl
  have hR : phi 14 [.int .i64 pi, .int .i64 pt, .list es, .int .i64 i, .int .i64 t, .list l] = .tup [.tup [.int .i64 (accF i t l pi pt es).1, .bool (accOk i t l pi pt es)], stD i t (accF i t l pi pt es).2] := rfl
  simp [vc14, vh_obl, vh_call, vh_room, vh_branch, vh_loop, vh_again, vh_ret, updV, den, U.den, B.den, upd, condB, toL_list, toL_agg, toL_tup, toL_ptr, toL_fn, toI_int, toB_bool, pre, hm, hT, hR, stD, hp]
  refine ⟨fun h => ?_, fun h => ⟨fun h2 => ?_, fun h2 h3 => ?_⟩⟩
  · have : accOk i t l pi pt es = false := by simp [accOk, h]
    simp [accF, this]
  · have : accOk i t l pi pt es = false := by
      rw [Bool.eq_false_iff]; intro hk
      simp only [accOk, Bool.and_eq_true, beq_iff_eq] at hk
      rcases h2 with h2 | h2
      · exact h2 hk.1.2
      · exact h2 hk.2
    simp [accF, this]
  · have hA : accOk i t l pi pt es = true := by simp [accOk, h, h2, h3]
    obtain ⟨q1, q2, q3⟩ := termF_ok h2
    obtain ⟨_, hce⟩ := mayB_iff.1 h
    refine LoopOk.intro (AJ i t l es) (FM es 2) ⟨0, (pi - i).toNat, rfl, Nat.zero_le _, by omega, ?_, rfl⟩ ?_
    · rw [← q3, h3, show i + (((pi - i).toNat : Nat) : Int) = pi by omega]; exact hce
    intro xs hxs hJ
    obtain ⟨n, s, rfl, hle, hs, hch, hacc⟩ := hJ
    rcases hx : es[n]? with _ | x
    · have hge : es.length ≤ n := by rwa [List.getElem?_eq_none_iff] at hx
      rw [List.drop_of_length_le hge] at hacc
      have hlt : ¬ ((n : Int) < es.length) := by omega
      simp [toI_int, toL_list, hlt, accF, hA, ← hacc, accL]
    · obtain ⟨hlt, hge⟩ := List.getElem?_eq_some_iff.1 hx
      obtain ⟨e0, e1, _, _⟩ := ent_at (heL x (List.mem_of_getElem? hx))
      rw [List.drop_eq_getElem_cons hlt, hge] at hacc hch
      have hlt' : (n : Int) < es.length := by omega
      obtain ⟨c1, c2, c3, c4, _⟩ := chB_cons.1 hch
      simp only [MX] at c3 c4
      simp [toI_int, toL_list, toL_tup, toL_agg, toB_bool, hx, e0, e1, hlt', hT, stD, hp]
      refine ⟨⟨fun g1 g2 => ?_, fun hno => ?_⟩, fun hq => by omega⟩
      · have hh : hasE i t l x = true := by simp [hasE, g1, g2]
        obtain ⟨z1, z2⟩ := chE_next hs hch hh
        rw [wrap64 (n := (n : Int) + 1) (by omega) (by omega)]
        refine ⟨⟨n + 1, s + 1, rfl, hlt, z1, z2, ?_⟩, ?_⟩
        · rw [← hacc]
          conv => rhs; unfold accL; rw [if_pos hh]
        · show es.length - ((n : Int) + 1).toNat < es.length - (n : Int).toNat
          omega
      · have hh : hasE i t l x = false := by
          rw [Bool.eq_false_iff]; intro hk
          simp only [hasE, Bool.and_eq_true, beq_iff_eq] at hk
          exact hno hk.1 hk.2
        rw [wrap64 (n := ix x - i) (by omega) (by omega), wrap64 (n := ix x - i - 1) (by omega) (by omega)]
        have eA : accF i t l pi pt es = (ix x, l.take (ix x - i - 1).toNat ++ x :: es.drop (n + 1)) := by
          unfold accF; rw [if_pos hA, ← hacc]; unfold accL; rw [if_neg (by simp [hh])]
        have ed : es.drop n = x :: es.drop (n + 1) := by rw [List.drop_eq_getElem_cons hlt, hge]
        rw [eA, ed]
        have hml : min (ix x - i - 1).toNat l.length + (es.length - n) ≤ 8589934592 := by omega
        refine ⟨by omega, hle, ⟨Nat.le_trans hml (by decide), Nat.le_trans (Nat.mul_le_mul_right 320 hml) (by decide)⟩, by omega, ⟨rfl, hA⟩, rfl⟩
theorem con14 : Con Try.prog pre phi tb14 := con_cons c14 con22

end Go.Proofs.Ytgljfheohnlpfaa
