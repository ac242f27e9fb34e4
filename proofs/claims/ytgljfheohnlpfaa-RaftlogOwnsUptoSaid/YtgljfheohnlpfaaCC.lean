/-
  What each function of this seat computes, and that it keeps to it (C).
-/
import Derived.Test.YtgljfheohnlpfaaCB
set_option linter.unusedSimpArgs false
set_option linter.unusedVariables false
namespace Go.Proofs.Ytgljfheohnlpfaa
open Go Go.Eng Go.Proofs

theorem c28 : PureFn Try.prog 28 s28 (pre 28) (phi 28) := by
  refine objFn_auto (given := []) mix con34 Try.func28 rfl (by kernel_rfl) (v := vc28) (by kernel_rfl) ?_
  intro ds h hp
  obtain ⟨_, _, rfl, ⟨pi, rfl, hpi⟩, _, _, rfl, ⟨pt, rfl, hpt⟩, _, _, rfl, ⟨es, rfl, helen, heL⟩, _, _, rfl, ⟨i, rfl, hi⟩, _, _, rfl, ⟨t, rfl, ht⟩, _, _, rfl, ⟨l, rfl, hlen, hL⟩, rfl⟩ := h
  obtain ⟨hp, hsm, hse⟩ := hp
  replace hp : mayB i t l = true := hp
  replace hsm : l.length < 4294967296 := hsm
  replace hse : es.length < 4294967296 := hse
  obtain ⟨⟨k1, k2, k3, k4⟩, hc⟩ := mayB_iff.1 hp
  have hln := ch_len k2 hc
  have hb := hlen.2
  rw [entT_bytes] at hb
  simp only [MX] at hln k2 k4
  have hm : phi 34 [.int .i64 pi, .int .i64 pt, .list es] = .bool (mayB pi pt es) := rfl
  have hT : ∀ k : Int, phi 30 [.int .i64 k, .int .i64 i, .int .i64 t, .list l] = .tup [.tup [.int .i64 (termF i t l k).1, .int .i64 (termF i t l k).2], stD i t l] := fun _ => rfl
  have hR : phi 28 [.int .i64 pi, .int .i64 pt, .list es, .int .i64 i, .int .i64 t, .list l] = .tup [.tup [.int .i64 (accF i t l pi pt es).1, .bool (accOk i t l pi pt es)], stD i t (accF i t l pi pt es).2] := rfl
  simp [vc28, vh_obl, vh_call, vh_room, vh_branch, vh_loop, vh_again, vh_ret, updV, den, U.den, B.den, upd, condB, toL_list, toL_agg, toL_tup, toL_ptr, toL_fn, toI_int, toB_bool, pre, hm, hT, hR, stD, hp]
  refine ⟨fun h => ?_, fun h => ⟨fun h2 => ?_, fun h2 h3 => ?_⟩⟩
  · have : accOk i t l pi pt es = false := by simp [accOk, h]
    simp [accF, this]
  · have : accOk i t l pi pt es = false := by
      rw [Bool.eq_false_iff]; intro hk
      simp only [accOk, Bool.and_eq_true, beq_iff_eq] at hk
      rcases h2 with h2 | h2
      · exact h2 hk.1.2
      · exact h2 hk.2
    simp [accF, this]
  · have hA : accOk i t l pi pt es = true := by simp [accOk, h, h2, h3]
    obtain ⟨q1, q2, q3⟩ := termF_ok h2
    obtain ⟨_, hce⟩ := mayB_iff.1 h
    refine LoopOk.intro (AJ i t l es) (FM es 2) ⟨0, (pi - i).toNat, rfl, Nat.zero_le _, by omega, ?_, rfl⟩ ?_
    · rw [← q3, h3, show i + (((pi - i).toNat : Nat) : Int) = pi by omega]; exact hce
    intro xs hxs hJ
    clear hxs
    obtain ⟨n, s, rfl, hle, hs, hch, hacc⟩ := hJ
    rcases hx : es[n]? with _ | x
    · have hge : es.length ≤ n := by rwa [List.getElem?_eq_none_iff] at hx
      rw [List.drop_of_length_le hge] at hacc
      have hlt : ¬ ((n : Int) < es.length) := by omega
      simp [toI_int, toL_list, hlt, accF, hA, ← hacc, accL]
    · obtain ⟨hlt, hge⟩ := List.getElem?_eq_some_iff.1 hx
      obtain ⟨e0, e1, _, _⟩ := ent_at (heL x (List.mem_of_getElem? hx))
      rw [List.drop_eq_getElem_cons hlt, hge] at hacc hch
      have hlt' : (n : Int) < es.length := by omega
      obtain ⟨c1, c2, c3, c4, _⟩ := chB_cons.1 hch
      simp only [MX] at c3 c4
      simp [toI_int, toL_list, toL_tup, toL_agg, toB_bool, hx, e0, e1, hlt', hT, stD, hp]
      refine ⟨⟨fun g1 g2 => ?_, fun hno => ?_⟩, fun hq => by omega⟩
      · have hh : hasE i t l x = true := by simp [hasE, g1, g2]
        obtain ⟨z1, z2⟩ := chE_next hs hch hh
        rw [wrap64 (n := (n : Int) + 1) (by omega) (by omega)]
        refine ⟨⟨n + 1, s + 1, rfl, hlt, z1, z2, ?_⟩, ?_⟩
        · rw [← hacc]
          conv => rhs; unfold accL; rw [if_pos hh]
        · show es.length - ((n : Int) + 1).toNat < es.length - (n : Int).toNat
          omega
      · have hh : hasE i t l x = false := by
          rw [Bool.eq_false_iff]; intro hk
          simp only [hasE, Bool.and_eq_true, beq_iff_eq] at hk
          exact hno hk.1 hk.2
        have eA : accF i t l pi pt es = (ix x, l.take (ix x - i - 1).toNat ++ x :: es.drop (n + 1)) := by
          unfold accF; rw [if_pos hA, ← hacc]; unfold accL; rw [if_neg (by simp [hh])]
        have ed : es.drop n = x :: es.drop (n + 1) := by rw [List.drop_eq_getElem_cons hlt, hge]
        have es' : (ix x - i - 1).toNat = s := by omega
        rw [eA, es', ← ed]
        refine LoopOk.intro (fun xs => ∃ j : Nat, xs = [.list (l.take (min j s)), .int .i64 j] ∧ j ≤ l.length) (FM l 1) ⟨0, by simp, Nat.zero_le _⟩ ?_
        intro xs hxs hJ
        clear hxs
        obtain ⟨j, rfl, hjl⟩ := hJ
        rcases hy : l[j]? with _ | y
        · have hge2 := ge_none hy
          have hlt2 : ¬ ((j : Int) < l.length) := by omega
          have hej : l.take (min j s) = l.take s := by rw [show min j s = s by omega]
          simp [toI_int, toL_list, hlt2, hx, e0, hlt', hej]
          have hml : min s l.length + (es.length - n) ≤ 8589934592 := by omega
          exact fun _ => ⟨hle, ⟨maxLen_le (by omega), Nat.le_trans (Nat.mul_le_mul_right 320 hml) (by decide)⟩, hA⟩
        · have hlt2 := lt_some hy
          have hlt2' : (j : Int) < l.length := by omega
          have hye := hL y (List.mem_of_getElem? hy)
          obtain ⟨y0, y1, w0, w1⟩ := ent_at hye
          have hg := ch_get hc hy
          have he := ent_eta hye
          simp only [y0] at he
          have hw1 : IntKind.wrap .i64 ((j : Int) + 1) = (j : Int) + 1 := wrap64 (by omega) (by omega)
          simp [toI_int, toL_list, hy, y0, hlt2', hw1, he, hx, e0, hlt']
          refine ⟨⟨fun g1 => ⟨⟨maxLen_le (by omega), ?_⟩, ⟨j + 1, ⟨?_, rfl⟩, hlt2⟩, ?_⟩, fun g1 => ⟨⟨j + 1, ⟨by omega, rfl⟩, hlt2⟩, ?_⟩⟩, fun hq => by omega⟩
          · exact Nat.le_trans (Nat.mul_le_mul_right 320 (show _ ≤ l.length by omega)) hb
          · rw [show min j s = j by omega, show min (j + 1) s = j + 1 by omega, List.take_add_one, hy, Option.toList_some]
          · show l.length - ((j : Int) + 1).toNat < l.length - (j : Int).toNat
            omega
          · show l.length - ((j : Int) + 1).toNat < l.length - (j : Int).toNat
            omega
theorem con28 : Con Try.prog pre phi tb28 := con_cons c28 con34

theorem c27 : PureFn Try.prog 27 s27 (pre 27) (phi 27) := by
  refine objFn_auto (given := []) mix con28 Try.func27 rfl (by kernel_rfl) (v := vc27) (by kernel_rfl) ?_
  intro ds h hp
  obtain ⟨_, _, rfl, ⟨m, rfl, hm⟩, cm, _, rfl, hcm, _, _, rfl, ⟨i, rfl, hi⟩, _, _, rfl, ⟨t, rfl, ht⟩, _, _, rfl, ⟨l, rfl, hlen, hL⟩, rfl⟩ := h
  obtain ⟨hp, hsm⟩ := hp
  replace hp : mayB i t l = true := hp
  replace hsm : l.length < 4294967296 := hsm
  obtain ⟨⟨k1, k2, k3, k4⟩, hc⟩ := mayB_iff.1 hp
  have hln := ch_len k2 hc
  have he := cmd_eta hcm
  simp only [MX] at hln k2 k4
  have hl : phi 33 [.int .i64 i, .int .i64 t, .list l] = .tup [.tup [.int .i64 (i + l.length), .int .i64 (lastT t l)], stD i t l] := rfl

  have hR : phi 27 [.int .i64 m, cm, .int .i64 i, .int .i64 t, .list l] = .tup [.tup [putX i t l m cm, .int .i64 (putC i t l m)], stD i t (putL i t l m cm)] := rfl
  simp [vc27, vh_obl, vh_call, vh_room, vh_branch, vh_loop, vh_again, vh_ret, updV, den, U.den, B.den, upd, condB, toL_list, toL_agg, toL_tup, toL_ptr, toL_fn, toI_int, toB_bool, pre, hl, hR, stD, hp, he]
  have hnl : (l.length + 1 : Nat) ≤ maxLen := by simp only [maxLen]; omega
  refine ⟨fun h => ?_, fun h1 h2 h3 => ⟨fun h4 => ?_, fun h4 => ?_⟩⟩
  · have hC : putC i t l m = 1 := by unfold putC; rw [if_pos (by simp only [MX]; omega)]
    simp [putX, putL, hC, entZ]
  · have hC : putC i t l m = 2 := by unfold putC; rw [if_neg (by simp only [MX]; omega), if_pos (by simp only [MX]; omega)]
    simp [putX, putL, hC, entZ]
  · have hC : putC i t l m = 0 := by unfold putC; rw [if_neg (by simp only [MX]; omega), if_neg (by simp only [MX]; omega)]
    rw [wrap64 (n := i + l.length + 1) (by omega) (by omega)]
    refine ⟨⟨Nat.le_of_succ_le hnl, by omega⟩, ⟨hnl, by omega⟩, ?_⟩
    simp [putX, putL, hC, newE]
theorem con27 : Con Try.prog pre phi tb27 := con_cons c27 con28

theorem c32 : PureFn Try.prog 32 s32 (pre 32) (phi 32) := by
  refine objFn_auto (given := []) mix con27 Try.func32 rfl (by kernel_rfl) (v := vc32) (by kernel_rfl) ?_
  intro ds h hp
  obtain ⟨_, _, rfl, ⟨x, rfl, hx⟩, _, _, rfl, ⟨y, rfl, hy⟩, _, _, rfl, ⟨i, rfl, hi⟩, _, _, rfl, ⟨t, rfl, ht⟩, _, _, rfl, ⟨l, rfl, hlen, hL⟩, rfl⟩ := h
  replace hp : mayB i t l = true := hp
  have hl : phi 33 [.int .i64 i, .int .i64 t, .list l] = .tup [.tup [.int .i64 (i + l.length), .int .i64 (lastT t l)], stD i t l] := rfl
  have hR : phi 32 [.int .i64 x, .int .i64 y, .int .i64 i, .int .i64 t, .list l] = .tup [.bool (newerF i t l x y), stD i t l] := rfl
  simp [vc32, vh_obl, vh_call, vh_room, vh_branch, vh_loop, vh_again, vh_ret, updV, den, U.den, B.den, upd, condB, toL_list, toL_agg, toL_tup, toL_ptr, toL_fn, toI_int, toB_bool, pre, hl, hR, stD, hp, newerF]
  refine ⟨fun h => ?_, fun h => ?_⟩
  · intro hh; exact absurd hh h
  · simp [h]
theorem con32 : Con Try.prog pre phi tb32 := con_cons c32 con27

theorem c29 : PureFn Try.prog 29 s29 (pre 29) (phi 29) := by
  refine objFn_auto (given := []) mix con32 Try.func29 rfl (by kernel_rfl) (v := vc29) (by kernel_rfl) ?_
  intro ds h hp
  obtain ⟨_, _, rfl, ⟨k, rfl, hk⟩, _, _, rfl, ⟨i, rfl, hi⟩, _, _, rfl, ⟨t, rfl, ht⟩, _, _, rfl, ⟨l, rfl, hlen, hL⟩, rfl⟩ := h
  replace hp : mayB i t l = true := hp
  obtain ⟨⟨k1, k2, k3, k4⟩, hc⟩ := mayB_iff.1 hp
  have hln := ch_len k2 hc
  have hl2 := hlen.1
  have hb := hlen.2
  rw [entT_bytes] at hb
  simp only [maxLen, MX] at hl2 hln k2 k4

  rw [inK64] at hk
  have hl : phi 33 [.int .i64 i, .int .i64 t, .list l] = .tup [.tup [.int .i64 (i + l.length), .int .i64 (lastT t l)], stD i t l] := rfl
  have hT : ∀ k : Int, phi 30 [.int .i64 k, .int .i64 i, .int .i64 t, .list l] = .tup [.tup [.int .i64 (termF i t l k).1, .int .i64 (termF i t l k).2], stD i t l] := fun _ => rfl
  have hR : phi 29 [.int .i64 k, .int .i64 i, .int .i64 t, .list l] = .tup [.int .i64 (compC i l k), stD (compS i t l k).1 (compS i t l k).2.1 (compS i t l k).2.2] := rfl
  simp [vc29, vh_obl, vh_call, vh_room, vh_branch, vh_loop, vh_again, vh_ret, updV, den, U.den, B.den, upd, condB, toL_list, toL_agg, toL_tup, toL_ptr, toL_fn, toI_int, toB_bool, pre, hl, hT, hR, stD, hp]
  refine ⟨fun h => by simp [compC, compS, h], fun h => ⟨fun h2 => by simp [compC, compS, show ¬ (i + l.length < k) by omega, h2], fun h2 => ?_⟩⟩
  have e : compS i t l k = (k, (termF i t l k).1, l.drop (k - i).toNat) := by unfold compS; rw [if_neg (by omega)]
  have ec : compC i l k = 0 := by unfold compC; rw [if_neg (by omega)]
  refine LoopOk.intro (fun xs => ∃ n : Nat, xs = [.list ((l.take n).drop (k - i).toNat), .int .i64 n] ∧ n ≤ l.length) (FM l 1) ⟨0, by simp, Nat.zero_le _⟩ ?_
  intro xs hxs hJ
  obtain ⟨n, rfl, hle⟩ := hJ

  clear hxs
  rcases hx : l[n]? with _ | x
  · have hge := ge_none hx
    have hlt : ¬ ((n : Int) < l.length) := by omega
    have : n = l.length := by omega
    subst this
    simp [toI_int, toL_list, List.take_length, e, ec]
  · have hlt := lt_some hx
    have hlt' : (n : Int) < l.length := by omega
    have hxe := hL x (List.mem_of_getElem? hx)
    obtain ⟨e0, e1, r0, r1⟩ := ent_at hxe
    have hg := ch_get hc hx
    have hw1 : IntKind.wrap .i64 ((n : Int) + 1) = (n : Int) + 1 := wrap64 (by omega) (by omega)
    have he := ent_eta hxe
    simp only [e0] at he
    have et : l.take (n + 1) = l.take n ++ [x] := by rw [List.take_add_one, hx, Option.toList_some]
    simp [toI_int, toL_list, toB_bool, hx, e0, hlt', hw1, he]
    refine ⟨⟨fun g1 => ⟨⟨maxLen_le (by omega), ?_⟩, ⟨n + 1, ⟨?_, rfl⟩, hlt⟩, ?_⟩, fun g1 => ⟨⟨n + 1, ⟨?_, rfl⟩, hlt⟩, ?_⟩⟩, fun hq => by omega⟩
    · exact Nat.le_trans (Nat.mul_le_mul_right 320 (show _ ≤ l.length by omega)) hb
    · rw [et, List.drop_append_of_le_length (by rw [List.length_take]; omega)]
    · show l.length - ((n : Int) + 1).toNat < l.length - (n : Int).toNat
      omega
    · rw [List.drop_of_length_le (by rw [List.length_take]; omega), List.drop_of_length_le (by rw [List.length_take]; omega)]
    · show l.length - ((n : Int) + 1).toNat < l.length - (n : Int).toNat
      omega
theorem con29 : Con Try.prog pre phi tb29 := con_cons c29 con32

end Go.Proofs.Ytgljfheohnlpfaa
