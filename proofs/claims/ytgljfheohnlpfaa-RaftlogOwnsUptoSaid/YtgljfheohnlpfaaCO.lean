/-
  What each function of this seat computes, and that it keeps to it (O).
-/
import Derived.Test.YtgljfheohnlpfaaCI
set_option linter.unusedSimpArgs false
set_option linter.unusedVariables false
namespace Go.Proofs.Ytgljfheohnlpfaa
open Go Go.Eng Go.Proofs

theorem cslx : PureFn Try.prog 15 sslx (pre 15) (phi 15) := by
  refine objFn_auto (given := [(1000000, {drop := [55]})]) mix con4 Try.func15 rfl (by kernel_rfl) (v := vcslx) (by kernel_rfl) ?_
  intro ds h hp
  obtain ⟨_, _, rfl, ⟨f, rfl, hf⟩, _, _, rfl, ⟨m, rfl, hm⟩, _, _, rfl, ⟨i, rfl, hi⟩, _, _, rfl, ⟨t, rfl, ht⟩, _, _, rfl, ⟨l, rfl, hlen, hL⟩, rfl⟩ := h
  have hR : phi 15 [.int .i64 f, .int .i64 m, .int .i64 i, .int .i64 t, .list l] = .tup [.list (sliceF i l f m), stD i t l] := rfl
  simp [vcslx, vh_obl, vh_call, vh_room, vh_branch, vh_loop, vh_again, vh_ret, updV, den, U.den, B.den, upd, condB, toL_list, toL_agg, toL_tup, toL_ptr, toL_fn, toI_int, toB_bool, pre, hR, stD]
  replace hp : okB i t = true := hp
  rw [inK64] at hf hm
  obtain ⟨k1, k2, _, _⟩ := okB_iff.1 hp
  have hl2 := hlen.1
  have hb := hlen.2
  rw [entT_bytes] at hb
  simp only [maxLen, MX] at hl2 k2 ⊢
  refine ⟨?_, fun h1 h2 => ?_⟩
  · intro h
    unfold sliceF
    by_cases hc : m < 1 ∨ f ≤ i
    · rw [if_pos hc]
    · rw [if_neg hc]
      have h' := h.resolve_left hc
      rw [wrap64 (n := f - i) (by omega) (by omega), wrap64 (by omega) (by omega)] at h'
      rw [List.drop_of_length_le (by omega)]; simp
  · rw [wrap64 (n := f - i) (by omega) (by omega), wrap64 (n := f - i - 1) (by omega) (by omega)]
    intro h3
    rw [wrap64 (n := (l.length : Int) - (f - i - 1)) (by omega) (by omega)]
    have es : sliceF i l f m = (l.drop (f - i - 1).toNat).take m.toNat := by unfold sliceF; rw [if_neg (by omega)]
    refine ⟨fun h4 => ?_, fun h4 => ?_⟩
    · rw [wrap64 (n := f - i - 1 + m) (by omega) (by omega)]
      refine ⟨by omega, ⟨by omega, Nat.le_trans (Nat.mul_le_mul_right 320 (by omega)) hb⟩, ?_⟩
      rw [es, List.drop_take]; congr 1; omega
    · refine ⟨by omega, ⟨by omega, Nat.le_trans (Nat.mul_le_mul_right 320 (by omega)) hb⟩, ?_⟩
      rw [es, List.take_of_length_le (by rw [List.length_drop]; omega)]
theorem conslx : Con Try.prog pre phi tbslx := con_cons cslx con4

theorem c6 : PureFn Try.prog 6 s6 (pre 6) (phi 6) := by
  refine pureFn_auto (given := [(12, {own := [(8, 42)]}), (15, {own := [(8, 42)]})]) mix conslx Try.func6 (by kernel_rfl) (v := vc6) (by kernel_rfl) ?_
  intro ds h hp
  obtain ⟨_, _, rfl, ⟨d, rfl, hd, hdL⟩, rfl⟩ := h
  replace hp : wtL [.list d] ≤ 1048576 := hp
  have hd1 := hd.1
  simp only [maxLen] at hd1
  have h9 : phi 9 [.int .i64 0, .int .i64 0] = .tup [.tup [], stD 0 0 []] := rfl
  have h18 : phi 18 [.int .i64 0, .int .i64 0] = .tup [.tup [], stD 0 0 []] := rfl
  have hok0 : okB 0 0 = true := by decide
  have hB : ∀ (i t : Int) (l : List D), phi 21 [.int .i64 i, .int .i64 t, .list l] = .tup [.tup [.int .i64 i, .int .i64 t], .agg [.int .i64 i, .int .i64 t, .list l]] := fun _ _ _ => rfl
  have hLa : ∀ (i t : Int) (l : List D), phi 12 [.int .i64 i, .int .i64 t, .list l] = .tup [.tup [.int .i64 (i + l.length), .int .i64 (lastT t l)], stD i t l] := fun _ _ _ => rfl
  have hSl : ∀ (f m i t : Int) (l : List D), phi 15 [.int .i64 f, .int .i64 m, .int .i64 i, .int .i64 t, .list l] = .tup [.list (sliceF i l f m), stD i t l] := fun _ _ _ _ _ => rfl
  have hTm : ∀ (k i t : Int) (l : List D), phi 13 [.int .i64 k, .int .i64 i, .int .i64 t, .list l] = .tup [.tup [.int .i64 (termF i t l k).1, .int .i64 (termF i t l k).2], stD i t l] := fun _ _ _ _ => rfl
  have hCo : ∀ (k i t : Int) (l : List D), phi 22 [.int .i64 k, .int .i64 i, .int .i64 t, .list l] = .tup [.int .i64 (compC i l k), stD (compS i t l k).1 (compS i t l k).2.1 (compS i t l k).2.2] := fun _ _ _ _ => rfl
  have hPk : ∀ (c n : Int), phi 11 [.int .i64 c, .int .i64 n] = .int .i64 (pickF c n) := fun _ _ => rfl
  have hLv : phi 17 [] = .bool true := rfl
  have hEs : ∀ a b : List D, phi 16 [.list a, .list b] = .bool (sameL a b) := fun _ _ => rfl
  have hDo : ∀ (x : D) (i t : Int) (l : List D), phi 19 [x, .int .i64 i, .int .i64 t, .list l, .int .i64 i, .int .i64 t, .list l] = .tup [.bool true, stD (stepS i t l x).1 (stepS i t l x).2.1 (stepS i t l x).2.2, stD (stepS i t l x).1 (stepS i t l x).2.1 (stepS i t l x).2.2] := fun _ _ _ _ => rfl

  have hAl : ∀ (i t : Int) (l : List D), phi 20 [.int .i64 i, .int .i64 t, .list l, .int .i64 i, .int .i64 t, .list l] = .tup [.bool true, stD i t l, stD i t l] := fun _ _ _ => rfl
  have hR : phi 6 [.list d] = .bool true := rfl
  simp [vc6, vh_obl, vh_call, vh_room, vh_branch, vh_loop, vh_again, vh_ret, updV, den, U.den, B.den, upd, condB, toL_list, toL_agg, toL_tup, toL_ptr, toL_fn, toI_int, toB_bool, pre, h9, h18, stD, hok0]
  refine LoopOk.intro (fun xs => ∃ (n : Nat) (i t : Int) (l : List D), xs = [.bool false, .int .i64 n, .int .i64 i, .int .i64 t, .list l, .int .i64 i, .int .i64 t, .list l] ∧ n ≤ d.length ∧ Good d n i t l) (FM d 1) ⟨0, 0, 0, [], rfl, Nat.zero_le _, by decide, by simp⟩ ?_
  intro xs hxs hJ
  clear hxs
  obtain ⟨n, i, t, l, rfl, hn, hg⟩ := hJ
  rcases hx : d[n]? with _ | x
  · have hm := hg.1
    have hll := good_len hg hn hp
    obtain ⟨⟨k1, k2, k3, k4⟩, hc⟩ := mayB_iff.1 hm
    have hok : okB i t = true := okB_iff.2 ⟨k1, k2, k3, k4⟩
    have hcl := ch_len k2 hc
    simp only [MX] at k2 k4 hcl
    have hlt : ¬ ((n : Int) < d.length) := by have := ge_none hx; omega
    simp [toI_int, hlt, hLv, hR]
  · have hlt := lt_some hx
    have hlt' : (n : Int) < d.length := by omega
    have hw1 : IntKind.wrap .i64 ((n : Int) + 1) = (n : Int) + 1 := wrap64 (by omega) (by omega)
    obtain ⟨hg', hs1, hs2⟩ := good_step hg hx (hdL x (mem_some hx)) hp
    have hm := hg.1
    have hDx := hDo x i t l
    generalize stepS i t l x = s at hDx hg'
    obtain ⟨i', t', l'⟩ := s
    replace hg' : Good d (n + 1) i' t' l' := hg'
    have hm' := hg'.1
    have hll := good_len hg' hlt hp
    obtain ⟨⟨k1, k2, k3, k4⟩, hc⟩ := mayB_iff.1 hm'
    have hok : okB i' t' = true := okB_iff.2 ⟨k1, k2, k3, k4⟩
    have hcl := ch_len k2 hc
    simp only [MX] at k2 k4 hcl
    have hs3 : (x.toL[4]?.getD D.top).toL.length < 4294967296 := by rw [← List.getD_eq_getElem?_getD]; exact hs2
    have hsl := slice_all (i := i') (l := l') (m := 1073741824) (by omega) (by omega)
    have hw2 : IntKind.wrap .i64 (i' + 1) = i' + 1 := wrap64 (by omega) (by omega)
    have hfin : ∃ (n' : Nat) (i t : Int) (l : List D), ([.bool false, .int .i64 ((n : Int) + 1), .int .i64 i', .int .i64 t', .list l', .int .i64 i', .int .i64 t', .list l'] : List D) = [.bool false, .int .i64 n', .int .i64 i, .int .i64 t, .list l, .int .i64 i, .int .i64 t, .list l] ∧ n' ≤ d.length ∧ Good d n' i t l := ⟨n + 1, i', t', l', rfl, hlt, hg'⟩
    simp [toI_int, toL_list, toL_tup, toL_agg, toB_bool, hx, hlt', hw1, hDx, hB, hSl, stD, hm, hok, hs1, hs3, hw2, hsl]
    refine ⟨?_, fun hq => by omega⟩
    obtain ⟨J1, hJ1d⟩ : ∃ J : List D → Prop, ∀ xs, J xs ↔ ∃ (k : Nat) (a : List D), xs = [.list a, .int .i64 k] ∧ k ≤ a.length ∧ a.length ≤ 1048576 := ⟨_, fun _ => Iff.rfl⟩
    obtain ⟨M1, hM1d⟩ : ∃ M : List D → Nat, ∀ xs, M xs = (xs.getD 0 .top).toL.length - (xs.getD 1 .top).toI.toNat := ⟨_, fun _ => rfl⟩
    refine LoopOk.intro J1 M1 ((hJ1d _).2 ⟨0, l', rfl, Nat.zero_le _, hll⟩) ?_
    intro xs hxs hJ
    obtain ⟨k, a, rfl, hk, ha⟩ := (hJ1d _).1 hJ
    clear hJ hxs
    have hw3 : IntKind.wrap .i64 ((k : Int) + 1) = (k : Int) + 1 := wrap64 (by omega) (by omega)
    have hag : ∀ z : D, k < a.length → J1 [.list (a.take k ++ z :: a.drop (k + 1)), .int .i64 ((k : Int) + 1)] ∧ M1 [.list (a.take k ++ z :: a.drop (k + 1)), .int .i64 ((k : Int) + 1)] < M1 [.list a, .int .i64 (k : Int)] := by
      intro z hlt
      have e : (a.take k ++ z :: a.drop (k + 1)).length = a.length := by simp only [List.length_append, List.length_take, List.length_cons, List.length_drop]; omega
      refine ⟨(hJ1d _).2 ⟨k + 1, _, rfl, by omega, by omega⟩, ?_⟩
      rw [hM1d, hM1d]
      show (a.take k ++ z :: a.drop (k + 1)).length - ((k : Int) + 1).toNat < a.length - (k : Int).toNat
      omega
    simp [toI_int, toL_list, hw3]
    refine ⟨fun h1 => ⟨h1, hag _ h1⟩, fun h1 => ?_⟩
    obtain ⟨J2, hJ2d⟩ : ∃ J : List D → Prop, ∀ xs, J xs ↔ ∃ (k : Nat) (a : List D), xs = [.list a, .int .i64 k] ∧ k ≤ 8 ∧ a.length ≤ 1048576 + k := ⟨_, fun _ => Iff.rfl⟩
    obtain ⟨M2, hM2d⟩ : ∃ M : List D → Nat, ∀ xs, M xs = 8 - (xs.getD 1 .top).toI.toNat := ⟨_, fun _ => rfl⟩
    refine LoopOk.intro J2 M2 ((hJ2d _).2 ⟨0, a, rfl, Nat.zero_le _, by omega⟩) ?_
    intro xs hxs hJ
    obtain ⟨q, b, rfl, hq, hb⟩ := (hJ2d _).1 hJ
    clear hJ hxs
    have hw4 : IntKind.wrap .i64 ((q : Int) + 1) = (q : Int) + 1 := wrap64 (by omega) (by omega)
    have hag2 : ∀ z : D, q < 8 → J2 [.list (b ++ [z]), .int .i64 ((q : Int) + 1)] ∧ M2 [.list (b ++ [z]), .int .i64 ((q : Int) + 1)] < M2 [.list b, .int .i64 (q : Int)] := by
      intro z hlt
      refine ⟨(hJ2d _).2 ⟨q + 1, _, rfl, by omega, by rw [List.length_append, List.length_singleton]; omega⟩, ?_⟩
      rw [hM2d, hM2d]
      show 8 - ((q : Int) + 1).toNat < 8 - (q : Int).toNat
      omega
    simp [toI_int, toL_list, toL_tup, toL_agg, toB_bool, hw4, hAl, stD, hm', hll]
    refine ⟨fun h1 => ⟨⟨Nat.le_trans (show _ ≤ 140737488355328 by omega) (by decide), by omega⟩, hag2 _ (by omega)⟩, fun h1 => ⟨⟨n + 1, i', t', l', ⟨rfl, rfl, rfl, rfl, rfl, rfl, rfl⟩, hlt, hg'⟩, ?_⟩⟩
    show d.length - ((n : Int) + 1).toNat < d.length - (n : Int).toNat
    omega
theorem con6 : Con Try.prog pre phi tb6 := con_cons c6 conslx

end Go.Proofs.Ytgljfheohnlpfaa
