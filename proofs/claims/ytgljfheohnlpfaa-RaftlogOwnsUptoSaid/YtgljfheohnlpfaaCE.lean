/-
  What each function of this seat computes, and that it keeps to it (E).
-/
import Derived.Test.YtgljfheohnlpfaaCD
set_option linter.unusedSimpArgs false
set_option linter.unusedVariables false
namespace Go.Proofs.Ytgljfheohnlpfaa
open Go Go.Eng Go.Proofs

theorem c7 : PureFn Try.prog 7 s7 (pre 7) (phi 7) := by
  refine pureFn_auto (given := []) mix con17 Try.func7 (by kernel_rfl) (v := vc7) (by kernel_rfl) ?_
  intro ds h hp
  obtain ⟨_, _, rfl, ⟨d, rfl, hd, hdL⟩, rfl⟩ := h
  replace hp : wtL [.list d] ≤ 1048576 := hp
  have hd1 := hd.1
  simp only [maxLen] at hd1
  have h9 : phi 9 [.int .i64 0, .int .i64 0] = .tup [.tup [], stD 0 0 []] := rfl
  have h18 : phi 18 [.int .i64 0, .int .i64 0] = .tup [.tup [], stD 0 0 []] := rfl
  have hok0 : okB 0 0 = true := by decide
  have hB : ∀ (i t : Int) (l : List D), phi 21 [.int .i64 i, .int .i64 t, .list l] = .tup [.tup [.int .i64 i, .int .i64 t], .agg [.int .i64 i, .int .i64 t, .list l]] := fun _ _ _ => rfl
  have hLa : ∀ (i t : Int) (l : List D), phi 12 [.int .i64 i, .int .i64 t, .list l] = .tup [.tup [.int .i64 (i + l.length), .int .i64 (lastT t l)], stD i t l] := fun _ _ _ => rfl
  have hSl : ∀ (f m i t : Int) (l : List D), phi 15 [.int .i64 f, .int .i64 m, .int .i64 i, .int .i64 t, .list l] = .tup [.list (sliceF i l f m), stD i t l] := fun _ _ _ _ _ => rfl
  have hTm : ∀ (k i t : Int) (l : List D), phi 13 [.int .i64 k, .int .i64 i, .int .i64 t, .list l] = .tup [.tup [.int .i64 (termF i t l k).1, .int .i64 (termF i t l k).2], stD i t l] := fun _ _ _ _ => rfl
  have hCo : ∀ (k i t : Int) (l : List D), phi 22 [.int .i64 k, .int .i64 i, .int .i64 t, .list l] = .tup [.int .i64 (compC i l k), stD (compS i t l k).1 (compS i t l k).2.1 (compS i t l k).2.2] := fun _ _ _ _ => rfl
  have hPk : ∀ (c n : Int), phi 11 [.int .i64 c, .int .i64 n] = .int .i64 (pickF c n) := fun _ _ => rfl
  have hLv : phi 17 [] = .bool true := rfl
  have hEs : ∀ a b : List D, phi 16 [.list a, .list b] = .bool (sameL a b) := fun _ _ => rfl
  have hDo : ∀ (x : D) (i t : Int) (l : List D), phi 19 [x, .int .i64 i, .int .i64 t, .list l, .int .i64 i, .int .i64 t, .list l] = .tup [.bool true, stD (stepS i t l x).1 (stepS i t l x).2.1 (stepS i t l x).2.2, stD (stepS i t l x).1 (stepS i t l x).2.1 (stepS i t l x).2.2] := fun _ _ _ _ => rfl

  simp [vc7, vh_obl, vh_call, vh_room, vh_branch, vh_loop, vh_again, vh_ret, updV, den, U.den, B.den, upd, condB, toL_list, toL_agg, toL_tup, toL_ptr, toL_fn, toI_int, toB_bool, pre, h9, h18, stD, hok0]
  refine LoopOk.intro (fun xs => ∃ (n : Nat) (i t : Int) (l : List D), xs = [.bool false, .int .i64 n, .int .i64 i, .int .i64 t, .list l, .int .i64 i, .int .i64 t, .list l] ∧ n ≤ d.length ∧ Good d n i t l) (FM d 1) ⟨0, 0, 0, [], rfl, Nat.zero_le _, by decide, by simp⟩ ?_
  intro xs hxs hJ
  clear hxs
  obtain ⟨n, i, t, l, rfl, hn, hg⟩ := hJ
  rcases hx : d[n]? with _ | x
  · have hm := hg.1
    have hll := good_len hg hn hp
    obtain ⟨⟨k1, k2, k3, k4⟩, hc⟩ := mayB_iff.1 hm
    have hok : okB i t = true := okB_iff.2 ⟨k1, k2, k3, k4⟩
    have hcl := ch_len k2 hc
    simp only [MX] at k2 k4 hcl
    have hlt : ¬ ((n : Int) < d.length) := by have := ge_none hx; omega
    simp [toI_int, hlt, hLv, phi]
  · have hlt := lt_some hx
    have hlt' : (n : Int) < d.length := by omega
    have hw1 : IntKind.wrap .i64 ((n : Int) + 1) = (n : Int) + 1 := wrap64 (by omega) (by omega)
    obtain ⟨hg', hs1, hs2⟩ := good_step hg hx (hdL x (mem_some hx)) hp
    have hm := hg.1
    have hDx := hDo x i t l
    generalize stepS i t l x = s at hDx hg'
    obtain ⟨i', t', l'⟩ := s
    replace hg' : Good d (n + 1) i' t' l' := hg'
    have hm' := hg'.1
    have hll := good_len hg' hlt hp
    obtain ⟨⟨k1, k2, k3, k4⟩, hc⟩ := mayB_iff.1 hm'
    have hok : okB i' t' = true := okB_iff.2 ⟨k1, k2, k3, k4⟩
    have hcl := ch_len k2 hc
    simp only [MX] at k2 k4 hcl
    have hs3 : (x.toL[4]?.getD D.top).toL.length < 4294967296 := by rw [← List.getD_eq_getElem?_getD]; exact hs2
    have hsl := slice_all (i := i') (l := l') (m := 1073741824) (by omega) (by omega)
    have hw2 : IntKind.wrap .i64 (i' + 1) = i' + 1 := wrap64 (by omega) (by omega)
    simp [toI_int, toL_list, toL_tup, toL_agg, toB_bool, hx, hlt', hw1, hDx, hB, hSl, hLa, stD, hm, hok, hs1, hs3, hw2, hsl]
    refine ⟨?_, fun hq => by omega⟩
    refine LoopOk.intro (fun xs => ∃ (k : Nat) (a b : D), xs = [.bool false, a, b, .int .i64 k] ∧ k ≤ l'.length ∧ a.toI = i' + k ∧ b.toI = lastT t' (l'.take k)) (FM l' 3) ?_ ?_
    · exact ⟨0, _, _, rfl, Nat.zero_le _, by simp [toI_int], by simp [lastT, toI_int]⟩
    intro xs hxs hJ
    clear hxs
    obtain ⟨k, a, b, rfl, hk, ha, hb⟩ := hJ
    rcases hy : l'[k]? with _ | y
    · have hlt2 : ¬ ((k : Int) < l'.length) := by have := ge_none hy; omega
      have ek : k = l'.length := by have := ge_none hy; omega
      subst ek
      rw [List.take_length] at hb
      simp [toI_int, toL_list, toL_tup, toL_agg, toB_bool, hlt2, hLa, hm', stD, hw1, ha, hb]
      refine ⟨⟨n + 1, i', t', l', ⟨rfl, rfl, rfl, rfl, rfl, rfl, rfl⟩, hlt, hg'⟩, ?_⟩
      show d.length - ((n : Int) + 1).toNat < d.length - (n : Int).toNat
      omega
    · have hltk := lt_some hy
      have hltk' : (k : Int) < l'.length := by omega
      have hg2 := ch_get hc hy
      have hw3 : IntKind.wrap .i64 ((k : Int) + 1) = (k : Int) + 1 := wrap64 (by omega) (by omega)
      have hw4 : IntKind.wrap .i64 (i' + k + 1) = i' + k + 1 := wrap64 (by omega) (by omega)
      have h1 : ¬ (tm y < lastT t' (l'.take k)) := by have := hg2.2.1; omega
      simp [toI_int, toL_list, toB_bool, hy, hltk', hw3, hw4, ha, hb, ix_cell, tm_cell, hg2.1, h1]
      refine ⟨fun _ => ⟨⟨k + 1, _, _, ⟨rfl, rfl, by simp⟩, hltk, by rw [ix_cell, hg2.1]; omega, by rw [tm_cell, lastT_take hy]⟩, ?_⟩, fun hq => by omega⟩
      show l'.length - ((k : Int) + 1).toNat < l'.length - (k : Int).toNat
      omega
theorem con7 : Con Try.prog pre phi tb7 := con_cons c7 con17

end Go.Proofs.Ytgljfheohnlpfaa
