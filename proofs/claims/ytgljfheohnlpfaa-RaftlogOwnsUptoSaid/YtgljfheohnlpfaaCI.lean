/-
  What each function of this seat computes, and that it keeps to it (I).
-/
import Derived.Test.YtgljfheohnlpfaaCH
set_option linter.unusedSimpArgs false
set_option linter.unusedVariables false
namespace Go.Proofs.Ytgljfheohnlpfaa
open Go Go.Eng Go.Proofs

theorem c20 : PureFn Try.prog 20 s20 (pre 20) (phi 20) := by
  refine objFn_auto (given := []) mix con3 Try.func20 rfl (by kernel_rfl) (v := vc20) (by kernel_rfl) ?_
  intro ds h hp
  obtain ⟨_, _, rfl, ⟨i, rfl, hi⟩, _, _, rfl, ⟨t, rfl, ht⟩, _, _, rfl, ⟨l, rfl, hlen, hL⟩, _, _, rfl, ⟨i', rfl, hi'⟩, _, _, rfl, ⟨t', rfl, ht'⟩, _, _, rfl, ⟨l', rfl, hlen', hL'⟩, rfl⟩ := h
  obtain ⟨hp, e1, e2, e3, hs1⟩ := hp
  replace hp : mayB i t l = true := hp
  obtain rfl : i' = i := e1
  obtain rfl : t' = t := e2
  obtain rfl : l' = l := e3
  replace hs1 : l'.length ≤ 1048576 := hs1
  obtain ⟨⟨k1, k2, k3, k4⟩, hc⟩ := mayB_iff.1 hp
  have hok : okB i' t' = true := okB_iff.2 ⟨k1, k2, k3, k4⟩
  simp only [MX] at k2
  have hw : IntKind.wrap .i64 (i' + 1) = i' + 1 := wrap64 (by omega) (by omega)
  have hsl := slice_all (i := i') (l := l') (m := 1073741824) (by omega) (by omega)
  have h9 : phi 9 [.int .i64 0, .int .i64 0] = .tup [.tup [], stD 0 0 []] := rfl
  have h18 : phi 18 [.int .i64 0, .int .i64 0] = .tup [.tup [], stD 0 0 []] := rfl
  have hok0 : okB 0 0 = true := by decide
  have hB : ∀ (i t : Int) (l : List D), phi 21 [.int .i64 i, .int .i64 t, .list l] = .tup [.tup [.int .i64 i, .int .i64 t], .agg [.int .i64 i, .int .i64 t, .list l]] := fun _ _ _ => rfl
  have hLa : ∀ (i t : Int) (l : List D), phi 12 [.int .i64 i, .int .i64 t, .list l] = .tup [.tup [.int .i64 (i + l.length), .int .i64 (lastT t l)], stD i t l] := fun _ _ _ => rfl
  have hSl : ∀ (f m i t : Int) (l : List D), phi 15 [.int .i64 f, .int .i64 m, .int .i64 i, .int .i64 t, .list l] = .tup [.list (sliceF i l f m), stD i t l] := fun _ _ _ _ _ => rfl
  have hTm : ∀ (k i t : Int) (l : List D), phi 13 [.int .i64 k, .int .i64 i, .int .i64 t, .list l] = .tup [.tup [.int .i64 (termF i t l k).1, .int .i64 (termF i t l k).2], stD i t l] := fun _ _ _ _ => rfl
  have hCo : ∀ (k i t : Int) (l : List D), phi 22 [.int .i64 k, .int .i64 i, .int .i64 t, .list l] = .tup [.int .i64 (compC i l k), stD (compS i t l k).1 (compS i t l k).2.1 (compS i t l k).2.2] := fun _ _ _ _ => rfl
  have hPk : ∀ (c n : Int), phi 11 [.int .i64 c, .int .i64 n] = .int .i64 (pickF c n) := fun _ _ => rfl
  have hLv : phi 17 [] = .bool true := rfl
  have hEs : ∀ a b : List D, phi 16 [.list a, .list b] = .bool (sameL a b) := fun _ _ => rfl
  have hDo : ∀ (x : D) (i t : Int) (l : List D), phi 19 [x, .int .i64 i, .int .i64 t, .list l, .int .i64 i, .int .i64 t, .list l] = .tup [.bool true, stD (stepS i t l x).1 (stepS i t l x).2.1 (stepS i t l x).2.2, stD (stepS i t l x).1 (stepS i t l x).2.1 (stepS i t l x).2.2] := fun _ _ _ _ => rfl

  have hLr : ∀ (i t : Int) (l : List D), phi 33 [.int .i64 i, .int .i64 t, .list l] = .tup [.tup [.int .i64 (i + l.length), .int .i64 (lastT t l)], stD i t l] := fun _ _ _ => rfl
  have hR : phi 20 [.int .i64 i', .int .i64 t', .list l', .int .i64 i', .int .i64 t', .list l'] = .tup [.bool true, stD i' t' l', stD i' t' l'] := rfl
  simp [vc20, vh_obl, vh_call, vh_room, vh_branch, vh_loop, vh_again, vh_ret, updV, den, U.den, B.den, upd, condB, toL_list, toL_agg, toL_tup, toL_ptr, toL_fn, toI_int, toB_bool, pre, hB, hLa, hLr, hSl, hEs, hw, hsl, sameL_refl, hp, hok, stD, hR]
theorem con20 : Con Try.prog pre phi tb20 := con_cons c20 con3

theorem c4 : PureFn Try.prog 4 s4 (pre 4) (phi 4) := by
  refine pureFn_auto (given := []) mix con20 Try.func4 (by kernel_rfl) (v := vc4) (by kernel_rfl) ?_
  intro ds h hp
  obtain ⟨_, _, rfl, ⟨i0, rfl, hi0⟩, _, _, rfl, ⟨t0, rfl, ht0⟩, _, _, rfl, ⟨d, rfl, hd, hdL⟩, rfl⟩ := h
  obtain ⟨hp, hok0'⟩ := hp
  replace hok0' : newOk i0 t0 = true := hok0'
  obtain ⟨hokn, hz⟩ := newOk_iff.1 hok0'
  replace hp : wtL [.list d] ≤ 1048576 := by
    have h0 : wtL [.int .i64 i0, .int .i64 t0, .list d] ≤ 1048576 := hp
    simp only [wtL, D.wt] at h0 ⊢; omega
  have hd1 := hd.1
  simp only [maxLen] at hd1
  have h9 : phi 9 [.int .i64 0, .int .i64 0] = .tup [.tup [], stD 0 0 []] := rfl
  have h18 : phi 18 [.int .i64 0, .int .i64 0] = .tup [.tup [], stD 0 0 []] := rfl
  have hok0 : okB 0 0 = true := by decide
  have hB : ∀ (i t : Int) (l : List D), phi 21 [.int .i64 i, .int .i64 t, .list l] = .tup [.tup [.int .i64 i, .int .i64 t], .agg [.int .i64 i, .int .i64 t, .list l]] := fun _ _ _ => rfl
  have hLa : ∀ (i t : Int) (l : List D), phi 12 [.int .i64 i, .int .i64 t, .list l] = .tup [.tup [.int .i64 (i + l.length), .int .i64 (lastT t l)], stD i t l] := fun _ _ _ => rfl
  have hSl : ∀ (f m i t : Int) (l : List D), phi 15 [.int .i64 f, .int .i64 m, .int .i64 i, .int .i64 t, .list l] = .tup [.list (sliceF i l f m), stD i t l] := fun _ _ _ _ _ => rfl
  have hTm : ∀ (k i t : Int) (l : List D), phi 13 [.int .i64 k, .int .i64 i, .int .i64 t, .list l] = .tup [.tup [.int .i64 (termF i t l k).1, .int .i64 (termF i t l k).2], stD i t l] := fun _ _ _ _ => rfl
  have hCo : ∀ (k i t : Int) (l : List D), phi 22 [.int .i64 k, .int .i64 i, .int .i64 t, .list l] = .tup [.int .i64 (compC i l k), stD (compS i t l k).1 (compS i t l k).2.1 (compS i t l k).2.2] := fun _ _ _ _ => rfl
  have hPk : ∀ (c n : Int), phi 11 [.int .i64 c, .int .i64 n] = .int .i64 (pickF c n) := fun _ _ => rfl
  have hLv : phi 17 [] = .bool true := rfl
  have hEs : ∀ a b : List D, phi 16 [.list a, .list b] = .bool (sameL a b) := fun _ _ => rfl
  have hDo : ∀ (x : D) (i t : Int) (l : List D), phi 19 [x, .int .i64 i, .int .i64 t, .list l, .int .i64 i, .int .i64 t, .list l] = .tup [.bool true, stD (stepS i t l x).1 (stepS i t l x).2.1 (stepS i t l x).2.2, stD (stepS i t l x).1 (stepS i t l x).2.1 (stepS i t l x).2.2] := fun _ _ _ _ => rfl

  have h9' : phi 9 [.int .i64 i0, .int .i64 t0] = .tup [.tup [], stD i0 t0 []] := rfl
  have h18' : phi 18 [.int .i64 i0, .int .i64 t0] = .tup [.tup [], stD i0 t0 []] := rfl
  have hAl : ∀ (i t : Int) (l : List D), phi 20 [.int .i64 i, .int .i64 t, .list l, .int .i64 i, .int .i64 t, .list l] = .tup [.bool true, stD i t l, stD i t l] := fun _ _ _ => rfl
  have hR : phi 4 [.int .i64 i0, .int .i64 t0, .list d] = .bool true := rfl
  have hm0 : mayB i0 t0 [] = true := mayB_iff.2 ⟨okB_iff.1 hokn, rfl⟩
  simp [vc4, vh_obl, vh_call, vh_room, vh_branch, vh_loop, vh_again, vh_ret, updV, den, U.den, B.den, upd, condB, toL_list, toL_agg, toL_tup, toL_ptr, toL_fn, toI_int, toB_bool, pre, h9', h18', stD, hokn, hz, hR]
  refine LoopOk.intro (fun xs => ∃ (n : Nat) (i t : Int) (l : List D), xs = [.bool false, .int .i64 n, .int .i64 i, .int .i64 t, .list l, .int .i64 i, .int .i64 t, .list l] ∧ n ≤ d.length ∧ Good d n i t l) (FM d 1) ⟨0, i0, t0, [], rfl, Nat.zero_le _, hm0, by simp⟩ ?_
  intro xs hxs hJ
  clear hxs
  obtain ⟨n, i, t, l, rfl, hn, hg⟩ := hJ
  rcases hx : d[n]? with _ | x
  · have hm := hg.1
    have hll := good_len hg hn hp
    obtain ⟨⟨k1, k2, k3, k4⟩, hc⟩ := mayB_iff.1 hm
    have hok : okB i t = true := okB_iff.2 ⟨k1, k2, k3, k4⟩
    have hcl := ch_len k2 hc
    simp only [MX] at k2 k4 hcl
    have hlt : ¬ ((n : Int) < d.length) := by have := ge_none hx; omega
    simp [toI_int, hlt, hLv, hR]
  · have hlt := lt_some hx
    have hlt' : (n : Int) < d.length := by omega
    have hw1 : IntKind.wrap .i64 ((n : Int) + 1) = (n : Int) + 1 := wrap64 (by omega) (by omega)
    obtain ⟨hg', hs1, hs2⟩ := good_step hg hx (hdL x (mem_some hx)) hp
    have hm := hg.1
    have hDx := hDo x i t l
    generalize stepS i t l x = s at hDx hg'
    obtain ⟨i', t', l'⟩ := s
    replace hg' : Good d (n + 1) i' t' l' := hg'
    have hm' := hg'.1
    have hll := good_len hg' hlt hp
    obtain ⟨⟨k1, k2, k3, k4⟩, hc⟩ := mayB_iff.1 hm'
    have hok : okB i' t' = true := okB_iff.2 ⟨k1, k2, k3, k4⟩
    have hcl := ch_len k2 hc
    simp only [MX] at k2 k4 hcl
    have hs3 : (x.toL[4]?.getD D.top).toL.length < 4294967296 := by rw [← List.getD_eq_getElem?_getD]; exact hs2
    simp [toI_int, toL_list, toL_tup, toL_agg, toB_bool, hx, hlt', hw1, hDx, hAl, stD, hm, hs1, hs3, hm', hll, hR]
    refine ⟨⟨⟨n + 1, i', t', l', ⟨rfl, rfl, rfl, rfl, rfl, rfl, rfl⟩, hlt, hg'⟩, ?_⟩, fun hq => by omega⟩
    show d.length - ((n : Int) + 1).toNat < d.length - (n : Int).toNat
    omega
theorem con4 : Con Try.prog pre phi tb4 := con_cons c4 con20

end Go.Proofs.Ytgljfheohnlpfaa
