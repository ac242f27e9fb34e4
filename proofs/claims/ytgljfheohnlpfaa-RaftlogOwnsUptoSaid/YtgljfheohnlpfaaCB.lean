/-
  What each function of this seat computes, and that it keeps to it (B).
-/
import Derived.Test.YtgljfheohnlpfaaCA
set_option linter.unusedSimpArgs false
set_option linter.unusedVariables false
namespace Go.Proofs.Ytgljfheohnlpfaa
open Go Go.Eng Go.Proofs

theorem c18 : PureFn Try.prog 18 s18 (pre 18) (phi 18) := by
  refine objFn_auto (given := []) mix con14 Try.func18 rfl (by kernel_rfl) (v := vc18) (by kernel_rfl) ?_
  intro ds h hp
  obtain ⟨_, _, rfl, ⟨i, rfl, hi⟩, _, _, rfl, ⟨t, rfl, ht⟩, rfl⟩ := h
  obtain ⟨hp1, hp2⟩ := hp
  replace hp1 : okB i t = true := hp1
  replace hp2 : i = 0 ↔ t = 0 := hp2
  obtain ⟨h1, h2, h3, h4⟩ := okB_iff.1 hp1
  simp only [MX] at h2 h4
  have e : (i == 0) = (t == 0) := by rw [Bool.eq_iff_iff]; simpa using hp2
  simp [vc18, vh_obl, vh_call, vh_room, vh_branch, vh_loop, vh_again, vh_ret, vh_stuck, updV, den, U.den, B.den, upd, condB, toL_list, toL_agg, toL_tup, toL_ptr, toL_fn, toI_int, toB_bool, pre, phi, stD, e]
  omega
theorem con18 : Con Try.prog pre phi tb18 := con_cons c18 con14

theorem c33 : PureFn Try.prog 33 s33 (pre 33) (phi 33) := by
  refine objFn_auto (given := []) mix con18 Try.func33 rfl (by kernel_rfl) (v := vc33) (by kernel_rfl) ?_
  intro ds h hp
  obtain ⟨_, _, rfl, ⟨i, rfl, hi⟩, _, _, rfl, ⟨t, rfl, ht⟩, _, _, rfl, ⟨l, rfl, hlen, hL⟩, rfl⟩ := h
  replace hp : mayB i t l = true := hp
  obtain ⟨⟨k1, k2, k3, k4⟩, hc⟩ := mayB_iff.1 hp
  have hln := ch_len k2 hc
  have hl2 := hlen.1
  have hb := hlen.2
  rw [entT_bytes] at hb
  simp only [maxLen, MX] at hl2 hln k2 k4

  have hR : phi 33 [.int .i64 i, .int .i64 t, .list l] = .tup [.tup [.int .i64 (i + l.length), .int .i64 (lastT t l)], stD i t l] := rfl
  simp [vc33, vh_obl, vh_call, vh_room, vh_branch, vh_loop, vh_again, vh_ret, updV, den, U.den, B.den, upd, condB, toL_list, toL_agg, toL_tup, toL_ptr, toL_fn, toI_int, toB_bool, pre, hR, stD]
  refine LoopOk.intro (fun xs => ∃ n : Nat, xs = [.int .i64 (i + n), .int .i64 (lastT t (l.take n)), .int .i64 n] ∧ n ≤ l.length) (FM l 2) ⟨0, by simp [lastT], Nat.zero_le _⟩ ?_
  intro xs hxs hJ
  obtain ⟨n, rfl, hle⟩ := hJ

  clear hxs
  rcases hx : l[n]? with _ | x
  · have hge := ge_none hx
    have hlt : ¬ ((n : Int) < l.length) := by omega
    have : n = l.length := by omega
    subst this
    simp [toI_int, List.take_length]
  · have hlt := lt_some hx
    have hlt' : (n : Int) < l.length := by omega
    have hxe := hL x (List.mem_of_getElem? hx)
    obtain ⟨e0, e1, r0, r1⟩ := ent_at hxe
    have hg := ch_get hc hx
    have hw1 : IntKind.wrap .i64 ((n : Int) + 1) = (n : Int) + 1 := wrap64 (by omega) (by omega)
    simp [toI_int, hx, e0, e1, hlt', hw1]
    refine ⟨⟨⟨n + 1, ⟨by omega, (lastT_take hx).symm, by omega⟩, hlt⟩, ?_⟩, fun hq => by omega⟩
    show l.length - ((n : Int) + 1).toNat < l.length - (n : Int).toNat
    omega
theorem con33 : Con Try.prog pre phi tb33 := con_cons c33 con18

theorem c30 : PureFn Try.prog 30 s30 (pre 30) (phi 30) := by
  refine objFn_auto (given := []) mix con33 Try.func30 rfl (by kernel_rfl) (v := vc30) (by kernel_rfl) ?_
  intro ds h hp
  obtain ⟨_, _, rfl, ⟨k, rfl, hk⟩, _, _, rfl, ⟨i, rfl, hi⟩, _, _, rfl, ⟨t, rfl, ht⟩, _, _, rfl, ⟨l, rfl, hlen, hL⟩, rfl⟩ := h
  replace hp : mayB i t l = true := hp
  obtain ⟨⟨k1, k2, k3, k4⟩, hc⟩ := mayB_iff.1 hp
  have hln := ch_len k2 hc
  have hl2 := hlen.1
  have hb := hlen.2
  rw [entT_bytes] at hb
  simp only [maxLen, MX] at hl2 hln k2 k4

  have hR : phi 30 [.int .i64 k, .int .i64 i, .int .i64 t, .list l] = .tup [.tup [.int .i64 (termF i t l k).1, .int .i64 (termF i t l k).2], stD i t l] := rfl
  simp [vc30, vh_obl, vh_call, vh_room, vh_branch, vh_loop, vh_again, vh_ret, updV, den, U.den, B.den, upd, condB, toL_list, toL_agg, toL_tup, toL_ptr, toL_fn, toI_int, toB_bool, pre, hR, stD]
  refine ⟨fun h => by simp [termF, h], fun h => ⟨fun h2 => by subst h2; simp [termF], fun h2 => ?_⟩⟩
  have h0 : ¬ k < i := by omega
  refine LoopOk.intro (fun xs => ∃ n : Nat, xs = [.int .i64 0, .int .i64 0, .int .i64 n] ∧ n ≤ l.length ∧ i + n < k) (FM l 2) ⟨0, by simp, Nat.zero_le _, by omega⟩ ?_
  intro xs hxs hJ
  obtain ⟨n, rfl, hle, hk'⟩ := hJ

  clear hxs
  rcases hx : l[n]? with _ | x
  · have hge := ge_none hx
    have hlt : ¬ ((n : Int) < l.length) := by omega
    have hT : termF i t l k = (0, 3) := by
      have : l[(k - i - 1).toNat]? = none := by rw [List.getElem?_eq_none_iff]; omega
      unfold termF; rw [if_neg h0, if_neg h2, this]
    simp [toI_int, hlt, hT]
  · have hlt := lt_some hx
    have hlt' : (n : Int) < l.length := by omega
    have hxe := hL x (List.mem_of_getElem? hx)
    obtain ⟨e0, e1, r0, r1⟩ := ent_at hxe
    have hg := ch_get hc hx
    have hw1 : IntKind.wrap .i64 ((n : Int) + 1) = (n : Int) + 1 := wrap64 (by omega) (by omega)
    simp [toI_int, hx, e0, e1, hlt', hw1]
    refine ⟨⟨fun g => ?_, fun g => ⟨⟨n + 1, rfl, hlt, by omega⟩, ?_⟩⟩, fun hq => by omega⟩
    · have hT : termF i t l k = (tm x, 0) := by
        have : l[(k - i - 1).toNat]? = some x := by rw [show (k - i - 1).toNat = n by omega]; exact hx
        unfold termF; rw [if_neg h0, if_neg h2, this]
      simp [hT]
    · show l.length - ((n : Int) + 1).toNat < l.length - (n : Int).toNat
      omega
theorem con30 : Con Try.prog pre phi tb30 := con_cons c30 con33

theorem c31 : PureFn Try.prog 31 s31 (pre 31) (phi 31) := by
  refine objFn_auto (given := []) mix con30 Try.func31 rfl (by kernel_rfl) (v := vc31) (by kernel_rfl) ?_
  intro ds h hp
  obtain ⟨_, _, rfl, ⟨f, rfl, hf⟩, _, _, rfl, ⟨m, rfl, hm⟩, _, _, rfl, ⟨i, rfl, hi⟩, _, _, rfl, ⟨t, rfl, ht⟩, _, _, rfl, ⟨l, rfl, hlen, hL⟩, rfl⟩ := h
  replace hp : mayB i t l = true := hp
  obtain ⟨⟨k1, k2, k3, k4⟩, hc⟩ := mayB_iff.1 hp
  have hln := ch_len k2 hc
  have hl2 := hlen.1
  have hb := hlen.2
  rw [entT_bytes] at hb
  simp only [maxLen, MX] at hl2 hln k2 k4

  have hR : phi 31 [.int .i64 f, .int .i64 m, .int .i64 i, .int .i64 t, .list l] = .tup [.list (sliceF i l f m), stD i t l] := rfl
  simp [vc31, vh_obl, vh_call, vh_room, vh_branch, vh_loop, vh_again, vh_ret, updV, den, U.den, B.den, upd, condB, toL_list, toL_agg, toL_tup, toL_ptr, toL_fn, toI_int, toB_bool, pre, hR, stD]
  refine LoopOk.intro (fun xs => ∃ n : Nat, xs = [.bool (thereF i f n), .list (sliceF i (l.take n) f m), .int .i64 n] ∧ n ≤ l.length) (FM l 2) ⟨0, by simp [slice_nil, there_zero], Nat.zero_le _⟩ ?_
  intro xs hxs hJ
  obtain ⟨n, rfl, hle⟩ := hJ

  clear hxs
  rcases hx : l[n]? with _ | x
  · have hge := ge_none hx
    have hlt : ¬ ((n : Int) < l.length) := by omega
    have : n = l.length := by omega
    subst this
    simp [toI_int, toL_list, List.take_length]
  · have hlt := lt_some hx
    have hlt' : (n : Int) < l.length := by omega
    have hxe := hL x (List.mem_of_getElem? hx)
    obtain ⟨e0, e1, r0, r1⟩ := ent_at hxe
    have hg := ch_get hc hx
    have hw1 : IntKind.wrap .i64 ((n : Int) + 1) = (n : Int) + 1 := wrap64 (by omega) (by omega)
    have he := ent_eta hxe
    simp only [e0] at he
    have hth := there_step (f := f) hg.1
    have hsl := slice_step (i := i) (f := f) (m := m) hx
    have hsn := slice_len (i := i) (l := l.take n) (f := f) (m := m)
    rw [List.length_take] at hsn
    simp [toI_int, toL_list, toB_bool, hx, e0, hlt', hw1, he]
    refine ⟨⟨fun g1 g2 => ⟨⟨?_, ?_⟩, ⟨n + 1, ⟨?_, ?_, rfl⟩, hlt⟩, ?_⟩, fun g => ⟨⟨n + 1, ⟨?_, ?_, rfl⟩, hlt⟩, ?_⟩⟩, fun hq => by omega⟩
    · exact maxLen_le (by omega)
    · exact Nat.le_trans (Nat.mul_le_mul_right 320 (show _ ≤ l.length by omega)) hb
    · first | exact hth.symm | simp [hth]
    · have hth' : thereF i f (n + 1) = true := by rw [hth]; simpa using g1
      rw [hsl, if_pos ⟨hth', g2⟩]
    · show l.length - ((n : Int) + 1).toNat < l.length - (n : Int).toNat
      omega
    · first | exact hth.symm | simp [hth]
    · rw [hsl, if_neg]
      rintro ⟨q1, q2⟩
      rw [hth] at q1
      exact absurd (g (by simpa using q1)) (by omega)
    · show l.length - ((n : Int) + 1).toNat < l.length - (n : Int).toNat
      omega
theorem con31 : Con Try.prog pre phi tb31 := con_cons c31 con30

theorem c34 : PureFn Try.prog 34 s34 (pre 34) (phi 34) := by
  refine pureFn_auto (given := []) mix con31 Try.func34 (by kernel_rfl) (v := vc34) (by kernel_rfl) ?_
  intro ds h hp
  obtain ⟨_, _, rfl, ⟨i, rfl, hi⟩, _, _, rfl, ⟨t, rfl, ht⟩, _, _, rfl, ⟨l, rfl, hlen, hL⟩, rfl⟩ := h
  have hl2 := hlen.1
  simp only [maxLen] at hl2
  have hR : phi 34 [.int .i64 i, .int .i64 t, .list l] = .bool (mayB i t l) := rfl
  simp [vc34, vh_obl, vh_call, vh_room, vh_branch, vh_loop, vh_again, vh_ret, updV, den, U.den, B.den, upd, condB, toL_list, toL_agg, toL_tup, toL_ptr, toL_fn, toI_int, toB_bool, pre, hR]
  refine ⟨fun h => ?_, fun h1 h2 h3 h4 => ?_⟩
  · have : okB i t = false := by rw [Bool.eq_false_iff]; intro hk; obtain ⟨k1, k2, k3, k4⟩ := okB_iff.1 hk; simp only [MX] at k2 k4; omega
    simp [mayB, this]
  refine LoopOk.intro (MJ i t l) (FM l 3) ⟨0, i, t, rfl, Nat.zero_le _, okB_iff.2 ⟨h1, h2, h3, h4⟩, rfl⟩ ?_
  intro xs hxs hJ
  obtain ⟨n, j, u, rfl, hle, hok, hf⟩ := hJ
  obtain ⟨k1, k2, k3, k4⟩ := okB_iff.1 hok
  simp only [MX] at k2 k4
  rcases hx : l[n]? with _ | x
  · have hge : l.length ≤ n := by rwa [List.getElem?_eq_none_iff] at hx
    rw [List.drop_of_length_le hge] at hf
    have hlt : ¬ ((n : Int) < l.length) := by omega
    have hm : mayB i t l = true := by simp [mayB, okB_iff.2 ⟨h1, h2, h3, h4⟩, ← hf, chB]
    simp [toI_int, hlt, hm]
  · obtain ⟨hlt, hge⟩ := List.getElem?_eq_some_iff.1 hx
    obtain ⟨e0, e1, r0, r1⟩ := ent_at (hL x (List.mem_of_getElem? hx))
    rw [inK64] at r0 r1
    rw [List.drop_eq_getElem_cons hlt, hge] at hf
    have hlt' : (n : Int) < l.length := by omega
    simp [toI_int, toB_bool, hx, e0, e1, hlt']
    rw [wrap64 (n := j + 1) (by omega) (by omega), wrap64 (n := (n : Int) + 1) (by omega) (by omega)]
    by_cases hk : ix x = j + 1 ∧ u ≤ tm x ∧ ix x ≤ MX ∧ tm x ≤ MX
    · obtain ⟨g1, g2, g3, g4⟩ := hk
      simp only [MX] at g3 g4
      refine ⟨⟨fun hq => by omega, fun _ _ _ _ => ⟨⟨n + 1, ix x, tm x, rfl, hlt, okB_iff.2 ⟨by omega, by simp only [MX]; omega, by omega, by simp only [MX]; omega⟩, ?_⟩, ?_⟩⟩, fun hq => by omega⟩
      · rw [← hf]; simp [chB, g1, g2, MX, show j + 1 ≤ 1099511627776 by omega, show tm x ≤ 1099511627776 by omega]
      · show l.length - ((n : Int) + 1).toNat < l.length - (n : Int).toNat
        omega
    · have hm : mayB i t l = false := by
        simp only [mayB, ← hf, Bool.and_eq_false_iff]
        right
        rw [Bool.eq_false_iff]
        intro hc
        obtain ⟨a1, a2, a3, a4, _⟩ := chB_cons.1 hc
        exact hk ⟨a1, a2, a3, a4⟩
      simp only [MX] at hk
      exact ⟨⟨fun _ => hm, fun w1 w2 w3 w4 => absurd ⟨w1, w3, w2, w4⟩ hk⟩, fun hq => by omega⟩
theorem con34 : Con Try.prog pre phi tb34 := con_cons c34 con31

end Go.Proofs.Ytgljfheohnlpfaa
