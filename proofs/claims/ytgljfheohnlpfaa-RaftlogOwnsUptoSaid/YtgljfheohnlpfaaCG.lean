/-
  What each function of this seat computes, and that it keeps to it (G).
-/
import Derived.Test.YtgljfheohnlpfaaCEC
set_option linter.unusedSimpArgs false
set_option linter.unusedVariables false
namespace Go.Proofs.Ytgljfheohnlpfaa
open Go Go.Eng Go.Proofs

theorem c8 : PureFn Try.prog 8 s8 (pre 8) (phi 8) := by
  refine pureFn_auto (given := []) mix con5 Try.func8 (by kernel_rfl) (v := vc8) (by kernel_rfl) ?_
  intro ds h hp
  obtain ⟨_, _, rfl, ⟨d, rfl, hd, hdL⟩, _, _, rfl, ⟨c, rfl, hci⟩, rfl⟩ := h
  replace hp : wtL [.list d] ≤ 1048576 := by rw [← pair_wt (c := c)]; exact hp
  have hd1 := hd.1
  simp only [maxLen] at hd1
  have h9 : phi 9 [.int .i64 0, .int .i64 0] = .tup [.tup [], stD 0 0 []] := rfl
  have h18 : phi 18 [.int .i64 0, .int .i64 0] = .tup [.tup [], stD 0 0 []] := rfl
  have hok0 : okB 0 0 = true := by decide
  have hB : ∀ (i t : Int) (l : List D), phi 21 [.int .i64 i, .int .i64 t, .list l] = .tup [.tup [.int .i64 i, .int .i64 t], .agg [.int .i64 i, .int .i64 t, .list l]] := fun _ _ _ => rfl
  have hLa : ∀ (i t : Int) (l : List D), phi 12 [.int .i64 i, .int .i64 t, .list l] = .tup [.tup [.int .i64 (i + l.length), .int .i64 (lastT t l)], stD i t l] := fun _ _ _ => rfl
  have hSl : ∀ (f m i t : Int) (l : List D), phi 15 [.int .i64 f, .int .i64 m, .int .i64 i, .int .i64 t, .list l] = .tup [.list (sliceF i l f m), stD i t l] := fun _ _ _ _ _ => rfl
  have hTm : ∀ (k i t : Int) (l : List D), phi 13 [.int .i64 k, .int .i64 i, .int .i64 t, .list l] = .tup [.tup [.int .i64 (termF i t l k).1, .int .i64 (termF i t l k).2], stD i t l] := fun _ _ _ _ => rfl
  have hCo : ∀ (k i t : Int) (l : List D), phi 22 [.int .i64 k, .int .i64 i, .int .i64 t, .list l] = .tup [.int .i64 (compC i l k), stD (compS i t l k).1 (compS i t l k).2.1 (compS i t l k).2.2] := fun _ _ _ _ => rfl
  have hPk : ∀ (c n : Int), phi 11 [.int .i64 c, .int .i64 n] = .int .i64 (pickF c n) := fun _ _ => rfl
  have hLv : phi 17 [] = .bool true := rfl
  have hEs : ∀ a b : List D, phi 16 [.list a, .list b] = .bool (sameL a b) := fun _ _ => rfl
  have hDo : ∀ (x : D) (i t : Int) (l : List D), phi 19 [x, .int .i64 i, .int .i64 t, .list l, .int .i64 i, .int .i64 t, .list l] = .tup [.bool true, stD (stepS i t l x).1 (stepS i t l x).2.1 (stepS i t l x).2.2, stD (stepS i t l x).1 (stepS i t l x).2.1 (stepS i t l x).2.2] := fun _ _ _ _ => rfl

  simp [vc8, vh_obl, vh_call, vh_room, vh_branch, vh_loop, vh_again, vh_ret, updV, den, U.den, B.den, upd, condB, toL_list, toL_agg, toL_tup, toL_ptr, toL_fn, toI_int, toB_bool, pre, h9, h18, stD, hok0]
  refine LoopOk.intro (fun xs => ∃ (n : Nat) (i t : Int) (l : List D), xs = [.int .i64 n, .int .i64 i, .int .i64 t, .list l, .int .i64 i, .int .i64 t, .list l] ∧ n ≤ d.length ∧ Good d n i t l) (FM d 0) ⟨0, 0, 0, [], rfl, Nat.zero_le _, by decide, by simp⟩ ?_
  intro xs hxs hJ
  clear hxs
  obtain ⟨n, i, t, l, rfl, hn, hg⟩ := hJ
  rcases hx : d[n]? with _ | x
  · have hm := hg.1
    have hll := good_len hg hn hp
    obtain ⟨⟨k1, k2, k3, k4⟩, hc⟩ := mayB_iff.1 hm
    have hok : okB i t = true := okB_iff.2 ⟨k1, k2, k3, k4⟩
    have hcl := ch_len k2 hc
    simp only [MX] at k2 k4 hcl
    have hlt : ¬ ((n : Int) < d.length) := by have := ge_none hx; omega
    have hpk := pickF_lt (c := c) (n := 9) (by omega)
    generalize hkk : pickF c 9 = k at hpk
    have hw2 : IntKind.wrap .i64 (1 + k) = 1 + k := wrap64 (by omega) (by omega)
    have hw3 : IntKind.wrap .i64 (i + 1) = i + 1 := wrap64 (by omega) (by omega)
    have hS := slice_all (i := i) (l := l) (m := 1073741824) (by omega) (by omega)
    simp [toI_int, toL_list, toL_tup, toL_agg, toB_bool, hlt, hB, hPk, hkk, hw2, hw3, stD, hm, hok]
    refine fun _ => ?_
    refine LoopOk.intro (fun xs => ∃ (j n : Nat), xs = [.bool false, .list (l.take j), .int .i64 (i + 1 + j), .int .i64 n, .int .i64 i, .int .i64 t, .list l] ∧ j = min (n * (1 + k).toNat) l.length ∧ n ≤ l.length + 1) (fun xs => l.length + 2 - (I (.list xs) 3).toNat) ?_ ?_
    · exact ⟨0, 0, by simp, by simp, by omega⟩
    intro xs hxs hJ
    clear hxs
    obtain ⟨j, n2, rfl, hj, hn2⟩ := hJ
    have hw4 : IntKind.wrap .i64 ((n2 : Int) + 1) = (n2 : Int) + 1 := wrap64 (by omega) (by omega)
    have hnm : n2 ≤ n2 * (1 + k).toNat := Nat.le_mul_of_pos_right _ (by omega)
    by_cases hnl : n2 ≤ l.length
    · have hnl' : (n2 : Int) ≤ l.length := by omega
      have hjl : j ≤ l.length := by omega
      have esl : sliceF i l (i + 1 + j) (1 + k) = (l.drop j).take (1 + k).toNat := by
        unfold sliceF; rw [if_neg (by omega), show (i + 1 + j - i - 1).toNat = j by omega]
      have elen : ((l.drop j).take (1 + k).toNat).length = min (1 + k).toNat (l.length - j) := by rw [List.length_take, List.length_drop]
      have hw5 : IntKind.wrap .i64 (i + 1 + j + (((l.drop j).take (1 + k).toNat).length : Nat)) = i + 1 + (((j + min (1 + k).toNat (l.length - j) : Nat)) : Int) := by rw [wrap64 (by omega) (by omega), elen]; omega
      have ecat : l.take j ++ (l.drop j).take (1 + k).toNat = l.take (j + min (1 + k).toNat (l.length - j)) := by
        rw [← List.take_add]
        by_cases hh : (1 + k).toNat ≤ l.length - j
        · rw [Nat.min_eq_left hh]
        · rw [Nat.min_eq_right (by omega), List.take_of_length_le (by omega), List.take_of_length_le (by omega)]
      have hlc : (l.take j ++ (l.drop j).take (1 + k).toNat).length ≤ l.length := by rw [ecat, List.length_take]; omega
      simp only [toI_int, toL_list, toL_tup, toL_agg, toB_bool, List.length_cons, List.length_nil]
      simp [toI_int, toL_list, toL_tup, toL_agg, toB_bool, hnl', hSl, esl, stD, hw4, hok]
      refine ⟨⟨fun hq => by omega, fun _ => ⟨⟨maxLen_le (by omega), Nat.le_trans (Nat.mul_le_mul_right 320 (show _ ≤ 1048576 by omega)) (by decide)⟩, ⟨j + min (1 + k).toNat (l.length - j), n2 + 1, ⟨ecat, by rw [wrap64 (by omega) (by omega)]; omega, by simp⟩, by rw [Nat.add_mul, Nat.one_mul]; omega, by omega⟩, ?_⟩⟩, fun hq => by omega⟩
      show l.length + 2 - ((n2 : Int) + 1).toNat < l.length + 2 - (n2 : Int).toNat
      omega
    · have hnl' : ¬ ((n2 : Int) ≤ l.length) := by omega
      have hjl : j = l.length := by omega
      simp [toI_int, toL_list, toL_tup, toL_agg, toB_bool, hnl', hSl, hS, hw3, stD, hok, hjl, List.take_length, hEs, sameL_refl, hLv, phi]

  · have hlt := lt_some hx
    have hlt' : (n : Int) < d.length := by omega
    have hw1 : IntKind.wrap .i64 ((n : Int) + 1) = (n : Int) + 1 := wrap64 (by omega) (by omega)
    obtain ⟨hg', hs1, hs2⟩ := good_step hg hx (hdL x (mem_some hx)) hp
    have hm := hg.1
    have hDx := hDo x i t l
    generalize stepS i t l x = s at hDx hg'
    obtain ⟨i', t', l'⟩ := s
    replace hg' : Good d (n + 1) i' t' l' := hg'
    have hm' := hg'.1
    have hll := good_len hg' hlt hp
    obtain ⟨⟨k1, k2, k3, k4⟩, hc⟩ := mayB_iff.1 hm'
    have hok : okB i' t' = true := okB_iff.2 ⟨k1, k2, k3, k4⟩
    have hcl := ch_len k2 hc
    simp only [MX] at k2 k4 hcl
    have hs3 : (x.toL[4]?.getD D.top).toL.length < 4294967296 := by rw [← List.getD_eq_getElem?_getD]; exact hs2
    simp [toI_int, toL_list, toL_tup, toL_agg, toB_bool, hx, hlt', hw1, hDx, stD, hm, hs1, hs3]
    refine ⟨⟨⟨n + 1, i', t', l', ⟨rfl, rfl, rfl, rfl, rfl, rfl, rfl⟩, hlt, hg'⟩, ?_⟩, fun hq => by omega⟩
    show d.length - ((n : Int) + 1).toNat < d.length - (n : Int).toNat
    omega
theorem con8 : Con Try.prog pre phi tb8 := con_cons c8 con5

end Go.Proofs.Ytgljfheohnlpfaa
