/-
  What each function of this seat computes, and that it keeps to it (EC).
-/
import Derived.Test.YtgljfheohnlpfaaCE
set_option linter.unusedSimpArgs false
set_option linter.unusedVariables false
namespace Go.Proofs.Ytgljfheohnlpfaa
open Go Go.Eng Go.Proofs

set_option maxHeartbeats 2000000 in
theorem c5 : PureFn Try.prog 5 s5 (pre 5) (phi 5) := by
  refine pureFn_auto (given := []) mix con7 Try.func5 (by kernel_rfl) (v := vc5) (by kernel_rfl) ?_
  intro ds h hp
  obtain ⟨_, _, rfl, ⟨d, rfl, hd, hdL⟩, _, _, rfl, ⟨c, rfl, hci⟩, rfl⟩ := h
  replace hp : wtL [.list d] ≤ 1048576 := by rw [← pair_wt (c := c)]; exact hp
  have hd1 := hd.1
  simp only [maxLen] at hd1
  have h9 : phi 9 [.int .i64 0, .int .i64 0] = .tup [.tup [], stD 0 0 []] := rfl
  have h18 : phi 18 [.int .i64 0, .int .i64 0] = .tup [.tup [], stD 0 0 []] := rfl
  have hok0 : okB 0 0 = true := by decide
  have hB : ∀ (i t : Int) (l : List D), phi 21 [.int .i64 i, .int .i64 t, .list l] = .tup [.tup [.int .i64 i, .int .i64 t], .agg [.int .i64 i, .int .i64 t, .list l]] := fun _ _ _ => rfl
  have hLa : ∀ (i t : Int) (l : List D), phi 12 [.int .i64 i, .int .i64 t, .list l] = .tup [.tup [.int .i64 (i + l.length), .int .i64 (lastT t l)], stD i t l] := fun _ _ _ => rfl
  have hSl : ∀ (f m i t : Int) (l : List D), phi 15 [.int .i64 f, .int .i64 m, .int .i64 i, .int .i64 t, .list l] = .tup [.list (sliceF i l f m), stD i t l] := fun _ _ _ _ _ => rfl
  have hTm : ∀ (k i t : Int) (l : List D), phi 13 [.int .i64 k, .int .i64 i, .int .i64 t, .list l] = .tup [.tup [.int .i64 (termF i t l k).1, .int .i64 (termF i t l k).2], stD i t l] := fun _ _ _ _ => rfl
  have hCo : ∀ (k i t : Int) (l : List D), phi 22 [.int .i64 k, .int .i64 i, .int .i64 t, .list l] = .tup [.int .i64 (compC i l k), stD (compS i t l k).1 (compS i t l k).2.1 (compS i t l k).2.2] := fun _ _ _ _ => rfl
  have hPk : ∀ (c n : Int), phi 11 [.int .i64 c, .int .i64 n] = .int .i64 (pickF c n) := fun _ _ => rfl
  have hLv : phi 17 [] = .bool true := rfl
  have hEs : ∀ a b : List D, phi 16 [.list a, .list b] = .bool (sameL a b) := fun _ _ => rfl
  have hDo : ∀ (x : D) (i t : Int) (l : List D), phi 19 [x, .int .i64 i, .int .i64 t, .list l, .int .i64 i, .int .i64 t, .list l] = .tup [.bool true, stD (stepS i t l x).1 (stepS i t l x).2.1 (stepS i t l x).2.2, stD (stepS i t l x).1 (stepS i t l x).2.1 (stepS i t l x).2.2] := fun _ _ _ _ => rfl

  simp [vc5, vh_obl, vh_call, vh_room, vh_branch, vh_loop, vh_again, vh_ret, updV, den, U.den, B.den, upd, condB, toL_list, toL_agg, toL_tup, toL_ptr, toL_fn, toI_int, toB_bool, pre, h9, h18, stD, hok0]
  refine LoopOk.intro (fun xs => ∃ (n : Nat) (i t : Int) (l : List D), xs = [.int .i64 n, .int .i64 i, .int .i64 t, .list l, .int .i64 i, .int .i64 t, .list l] ∧ n ≤ d.length ∧ Good d n i t l) (FM d 0) ⟨0, 0, 0, [], rfl, Nat.zero_le _, by decide, by simp⟩ ?_
  intro xs hxs hJ
  clear hxs
  obtain ⟨n, i, t, l, rfl, hn, hg⟩ := hJ
  rcases hx : d[n]? with _ | x
  · have hm := hg.1
    have hll := good_len hg hn hp
    obtain ⟨⟨k1, k2, k3, k4⟩, hc⟩ := mayB_iff.1 hm
    have hok : okB i t = true := okB_iff.2 ⟨k1, k2, k3, k4⟩
    have hcl := ch_len k2 hc
    simp only [MX] at k2 k4 hcl
    have hlt : ¬ ((n : Int) < d.length) := by have := ge_none hx; omega
    have hpk := pickF_lt (c := c) (n := (l.length : Int) + 1) (by omega)
    generalize hkk : pickF c ((l.length : Int) + 1) = k at hpk
    have hw1 : IntKind.wrap .i64 (i + l.length - i) = l.length := by rw [wrap64 (by omega) (by omega)]; omega
    have hw2 : IntKind.wrap .i64 ((l.length : Int) + 1) = (l.length : Int) + 1 := wrap64 (by omega) (by omega)
    have hw3 : IntKind.wrap .i64 (i + k) = i + k := wrap64 (by omega) (by omega)
    have hw4 : IntKind.wrap .i64 (i + k + 1) = i + k + 1 := wrap64 (by omega) (by omega)
    have hw5 : IntKind.wrap .i64 (i + k - 1) = i + k - 1 := wrap64 (by omega) (by omega)
    have hTi := termF_in (i := i) (t := t) (l := l) (k := i + k) (by omega) (by omega)
    have hcc : compC i l (i + k) = 0 := by unfold compC; rw [if_neg (by omega)]
    obtain ⟨hm2, hl2⟩ := compS_may (k := i + k) hm
    have hcs : (compS i t l (i + k)).1 = i + k ∧ (compS i t l (i + k)).2.1 = (termF i t l (i + k)).1 ∧ (compS i t l (i + k)).2.2 = l.drop k.toNat := by
      unfold compS
      by_cases hk0 : k = 0
      · subst hk0
        rw [if_pos (by omega)]
        refine ⟨by simp, ?_, by simp⟩
        unfold termF; rw [if_neg (by omega), if_pos (by omega)]
      · rw [if_neg (by omega)]; exact ⟨rfl, rfl, by rw [show i + k - i = k by omega]⟩
    generalize hce : compS i t l (i + k) = s at hm2 hl2 hcs
    obtain ⟨i', t', l'⟩ := s
    obtain ⟨c1, c2, c3⟩ := hcs
    replace c1 : i' = i + k := c1
    replace c2 : t' = (termF i t l (i + k)).1 := c2
    replace c3 : l' = l.drop k.toNat := c3
    obtain ⟨q1, q2, q3⟩ := termF_ok hTi
    have hll' : lastT t' l' = lastT t l := by
      rw [c2, c3, q3, show (i + k - i).toNat = k.toNat by omega, ← lastT_append, List.take_append_drop]
    have hlen' : i' + l'.length = i + l.length := by rw [c1, c3, List.length_drop]; omega
    have hS1 : sliceF i l (i + k + 1) 1073741824 = l' := by rw [slice_from (by omega) (by omega) (by omega), c3, show (i + k - i).toNat = k.toNat by omega]
    have hS2 : sliceF i' l' (i + k + 1) 1073741824 = l' := by rw [← c1]; exact slice_all (by omega) (by omega)
    have hG : (termF i' t' l' (i + k - 1)).2 = 23 := by unfold termF; rw [if_pos (by omega)]
    have hok' : okB i' t' = true := by rw [mayB, Bool.and_eq_true] at hm2; exact hm2.1
    replace hm2 : mayB i' t' l' = true := hm2
    subst c1; subst c2
    simp [toI_int, toL_list, toL_tup, toL_agg, toB_bool, hlt, hB, hLa, hPk, hw1, hw2, hkk, hw3, hw4, hw5, hSl, hTm, hCo, stD, hm, hok, hTi, hcc, hS1, hEs, hS2, hLv, hm2, hok', hll', hlen', hG, sameL_refl, hce, phi]

  · have hlt := lt_some hx
    have hlt' : (n : Int) < d.length := by omega
    have hw1 : IntKind.wrap .i64 ((n : Int) + 1) = (n : Int) + 1 := wrap64 (by omega) (by omega)
    obtain ⟨hg', hs1, hs2⟩ := good_step hg hx (hdL x (mem_some hx)) hp
    have hm := hg.1
    have hDx := hDo x i t l
    generalize stepS i t l x = s at hDx hg'
    obtain ⟨i', t', l'⟩ := s
    replace hg' : Good d (n + 1) i' t' l' := hg'
    have hm' := hg'.1
    have hll := good_len hg' hlt hp
    obtain ⟨⟨k1, k2, k3, k4⟩, hc⟩ := mayB_iff.1 hm'
    have hok : okB i' t' = true := okB_iff.2 ⟨k1, k2, k3, k4⟩
    have hcl := ch_len k2 hc
    simp only [MX] at k2 k4 hcl
    have hs3 : (x.toL[4]?.getD D.top).toL.length < 4294967296 := by rw [← List.getD_eq_getElem?_getD]; exact hs2
    simp [toI_int, toL_list, toL_tup, toL_agg, toB_bool, hx, hlt', hw1, hDx, stD, hm, hs1, hs3]
    refine ⟨⟨⟨n + 1, i', t', l', ⟨rfl, rfl, rfl, rfl, rfl, rfl, rfl⟩, hlt, hg'⟩, ?_⟩, fun hq => by omega⟩
    show d.length - ((n : Int) + 1).toNat < d.length - (n : Int).toNat
    omega
theorem con5 : Con Try.prog pre phi tb5 := con_cons c5 con7

end Go.Proofs.Ytgljfheohnlpfaa
