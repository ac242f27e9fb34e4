/-
  What each function of this seat computes, and that it keeps to it (H).
-/
import Derived.Test.YtgljfheohnlpfaaCG
set_option linter.unusedSimpArgs false
set_option linter.unusedVariables false
namespace Go.Proofs.Ytgljfheohnlpfaa
open Go Go.Eng Go.Proofs

set_option maxHeartbeats 2000000 in
theorem c3 : PureFn Try.prog 3 s3 (pre 3) (phi 3) := by
  refine pureFn_auto (given := []) mix con8 Try.func3 (by kernel_rfl) (v := vc3) (by kernel_rfl) ?_
  intro ds h hp
  obtain ⟨_, _, rfl, ⟨d1, rfl, hd1, hdL1⟩, _, _, rfl, ⟨d2, rfl, hd2, hdL2⟩, _, _, rfl, ⟨d3, rfl, hd3, hdL3⟩, rfl⟩ := h
  replace hp : wtL [.list d1, .list d2, .list d3] ≤ 1048576 := hp
  simp only [wtL, D.wt] at hp
  have h9 : phi 9 [.int .i64 0, .int .i64 0] = .tup [.tup [], stD 0 0 []] := rfl
  have h18 : phi 18 [.int .i64 0, .int .i64 0] = .tup [.tup [], stD 0 0 []] := rfl
  have hok0 : okB 0 0 = true := by decide
  have hB : ∀ (i t : Int) (l : List D), phi 21 [.int .i64 i, .int .i64 t, .list l] = .tup [.tup [.int .i64 i, .int .i64 t], .agg [.int .i64 i, .int .i64 t, .list l]] := fun _ _ _ => rfl
  have hLa : ∀ (i t : Int) (l : List D), phi 12 [.int .i64 i, .int .i64 t, .list l] = .tup [.tup [.int .i64 (i + l.length), .int .i64 (lastT t l)], stD i t l] := fun _ _ _ => rfl
  have hSl : ∀ (f m i t : Int) (l : List D), phi 15 [.int .i64 f, .int .i64 m, .int .i64 i, .int .i64 t, .list l] = .tup [.list (sliceF i l f m), stD i t l] := fun _ _ _ _ _ => rfl
  have hTm : ∀ (k i t : Int) (l : List D), phi 13 [.int .i64 k, .int .i64 i, .int .i64 t, .list l] = .tup [.tup [.int .i64 (termF i t l k).1, .int .i64 (termF i t l k).2], stD i t l] := fun _ _ _ _ => rfl
  have hCo : ∀ (k i t : Int) (l : List D), phi 22 [.int .i64 k, .int .i64 i, .int .i64 t, .list l] = .tup [.int .i64 (compC i l k), stD (compS i t l k).1 (compS i t l k).2.1 (compS i t l k).2.2] := fun _ _ _ _ => rfl
  have hPk : ∀ (c n : Int), phi 11 [.int .i64 c, .int .i64 n] = .int .i64 (pickF c n) := fun _ _ => rfl
  have hLv : phi 17 [] = .bool true := rfl
  have hEs : ∀ a b : List D, phi 16 [.list a, .list b] = .bool (sameL a b) := fun _ _ => rfl
  have hDo : ∀ (x : D) (i t : Int) (l : List D), phi 19 [x, .int .i64 i, .int .i64 t, .list l, .int .i64 i, .int .i64 t, .list l] = .tup [.bool true, stD (stepS i t l x).1 (stepS i t l x).2.1 (stepS i t l x).2.2, stD (stepS i t l x).1 (stepS i t l x).2.1 (stepS i t l x).2.2] := fun _ _ _ _ => rfl

  have hPu : ∀ (m : Int) (c : D) (l : List D), phi 10 [.int .i64 m, c, .int .i64 0, .int .i64 0, .list l] = .tup [.tup [putX 0 0 l m c, .int .i64 (putC 0 0 l m)], stD 0 0 (putL 0 0 l m c)] := fun _ _ _ => rfl
  have hAc : ∀ (f t : Int) (es l : List D), phi 14 [.int .i64 f, .int .i64 t, .list es, .int .i64 0, .int .i64 0, .list l] = .tup [.tup [.int .i64 (accF 0 0 l f t es).1, .bool (accOk 0 0 l f t es)], stD 0 0 (accF 0 0 l f t es).2] := fun _ _ _ _ => rfl
  have hR : phi 3 [.list d1, .list d2, .list d3] = .bool true := rfl
  simp [vc3, vh_obl, vh_call, vh_room, vh_branch, vh_loop, vh_again, vh_ret, updV, den, U.den, B.den, upd, condB, toL_list, toL_agg, toL_tup, toL_ptr, toL_fn, toI_int, toB_bool, pre, h9, stD, hok0]
  refine LoopOk.intro (fun xs => ∃ (n : Nat) (l : List D), xs = [.int .i64 n, .int .i64 0, .int .i64 0, .list l] ∧ n ≤ d1.length ∧ l.length ≤ n ∧ mayB 0 0 l = true ∧ ∀ x ∈ l, tm x % 2 = 0) (FM d1 0) ⟨0, [], rfl, Nat.zero_le _, by simp, by decide, by simp⟩ ?_
  intro xs hxs hJ
  clear hxs
  obtain ⟨n, la, rfl, hn, hla, hma, hea⟩ := hJ
  rcases hx : d1[n]? with _ | x
  rotate_left
  · have hlt := lt_some hx
    have hlt' : (n : Int) < d1.length := by omega
    have hw1 : IntKind.wrap .i64 ((n : Int) + 1) = (n : Int) + 1 := wrap64 (by omega) (by omega)
    obtain ⟨_, rfl, _, _, rfl, _, _, _, rfl, _, _, _, rfl, ⟨xt, rfl, _⟩, _, _, rfl, ⟨op, rfl, _⟩, _, _, rfl, _, rfl⟩ := hdL1 x (mem_some hx)
    have hpk := pickF_lt (c := xt) (n := 50) (by omega)
    generalize hkk : pickF xt 50 = k at hpk
    have hw2 : IntKind.wrap .i64 (2 * k) = 2 * k := wrap64 (by omega) (by omega)
    have hw3 : IntKind.wrap .i64 (2 * k + 2) = 2 * k + 2 := wrap64 (by omega) (by omega)
    have hs1 : la.length < 4294967296 := by omega
    simp [toI_int, toL_list, toL_tup, toL_agg, toB_bool, hx, hlt', hw1, hPk, hkk, hw2, hw3, hPu, stD, hma, hs1]
    refine ⟨⟨⟨n + 1, _, ⟨rfl, rfl⟩, hlt, ?_, ?_, ?_⟩, ?_⟩, fun hq => by omega⟩
    · have := (putL_may (m := 2 * k + 2) (c := cmd0 (.int .i64 op)) hma).2; simp only [cmd0] at this; omega
    · exact (putL_may hma).1
    · exact putL_tm (by omega) hea
    · show d1.length - ((n : Int) + 1).toNat < d1.length - (n : Int).toNat
      omega
  have hlt : ¬ ((n : Int) < d1.length) := by have := ge_none hx; omega
  simp [toI_int, toL_list, hlt]
  refine fun _ => ?_
  refine LoopOk.intro (fun xs => ∃ (n : Nat) (l : List D), xs = [.int .i64 n, .int .i64 0, .int .i64 0, .list l] ∧ n ≤ d2.length ∧ l.length ≤ n ∧ mayB 0 0 l = true ∧ ∀ x ∈ l, tm x % 2 = 1) (FM d2 0) ⟨0, [], rfl, Nat.zero_le _, by simp, by decide, by simp⟩ ?_
  intro xs hxs hJ
  clear hxs hx hlt
  obtain ⟨n2, lb0, rfl, hn2, hlb, hmb0, hob⟩ := hJ
  rcases hx : d2[n2]? with _ | x
  rotate_left
  · have hlt := lt_some hx
    have hlt' : (n2 : Int) < d2.length := by omega
    have hw1 : IntKind.wrap .i64 ((n2 : Int) + 1) = (n2 : Int) + 1 := wrap64 (by omega) (by omega)
    obtain ⟨_, rfl, _, _, rfl, _, _, _, rfl, _, _, _, rfl, ⟨xt, rfl, _⟩, _, _, rfl, ⟨op, rfl, _⟩, _, _, rfl, _, rfl⟩ := hdL2 x (mem_some hx)
    have hpk := pickF_lt (c := xt) (n := 50) (by omega)
    generalize hkk : pickF xt 50 = k at hpk
    have hw2 : IntKind.wrap .i64 (2 * k) = 2 * k := wrap64 (by omega) (by omega)
    have hw3 : IntKind.wrap .i64 (2 * k + 1) = 2 * k + 1 := wrap64 (by omega) (by omega)
    have hs1 : lb0.length < 4294967296 := by omega
    simp [toI_int, toL_list, toL_tup, toL_agg, toB_bool, hx, hlt', hw1, hPk, hkk, hw2, hw3, hPu, stD, hmb0, hs1]
    refine ⟨⟨⟨n2 + 1, _, ⟨rfl, rfl⟩, hlt, ?_, ?_, ?_⟩, ?_⟩, fun hq => by omega⟩
    · have := (putL_may (m := 2 * k + 1) (c := cmd0 (.int .i64 op)) hmb0).2; simp only [cmd0] at this; omega
    · exact (putL_may hmb0).1
    · exact putL_tm (by omega) hob
    · show d2.length - ((n2 : Int) + 1).toNat < d2.length - (n2 : Int).toNat
      omega
  have hlt : ¬ ((n2 : Int) < d2.length) := by have := ge_none hx; omega
  simp [toI_int, toL_list, hlt]
  refine fun _ => ?_
  obtain ⟨_, hca⟩ := mayB_iff.1 hma
  have hla' : la.length ≤ 1048576 := by omega
  have hlb' : lb0.length ≤ 1048576 := by omega
  refine LoopOk.intro (fun xs => ∃ (n : Nat) (lb : List D) (p : Nat), xs = [.bool false, .int .i64 n, .int .i64 0, .int .i64 0, .list la, .int .i64 0, .int .i64 0, .list lb] ∧ n ≤ d3.length ∧ lb.length ≤ 1048576 ∧ mayB 0 0 lb = true ∧ AL la lb p) (FM d3 1) ⟨0, lb0, 0, rfl, Nat.zero_le _, hlb', hmb0, Nat.zero_le _, lb0, by simp, hob⟩ ?_
  intro xs hxs hJ
  clear hxs hx hlt
  obtain ⟨n3, lb, p, rfl, hn3, hlb3, hmb, hAL⟩ := hJ
  rcases hx : d3[n3]? with _ | x
  · have hlt : ¬ ((n3 : Int) < d3.length) := by have := ge_none hx; omega
    simp [toI_int, hlt, hLv, hR]
  have hlt := lt_some hx
  have hlt' : (n3 : Int) < d3.length := by omega
  have hw1 : IntKind.wrap .i64 ((n3 : Int) + 1) = (n3 : Int) + 1 := wrap64 (by omega) (by omega)
  obtain ⟨_, rfl, _, _, rfl, _, _, _, rfl, ⟨xi, rfl, _⟩, _, _, rfl, ⟨xt, rfl, _⟩, _, _, rfl, _, _, _, rfl, _, rfl⟩ := hdL3 x (mem_some hx)
  have hw2 : IntKind.wrap .i64 ((la.length : Int) + 1) = (la.length : Int) + 1 := wrap64 (by omega) (by omega)
  have hpk := pickF_lt (c := xi) (n := (la.length : Int) + 1) (by omega)
  generalize hkk : pickF xi ((la.length : Int) + 1) = f at hpk
  have hpm := pickF_lt (c := xt) (n := 9) (by omega)
  generalize hmm : pickF xt 9 = m at hpm
  have hw3 : IntKind.wrap .i64 (f + 1) = f + 1 := wrap64 (by omega) (by omega)
  have hTi := termF_in (i := 0) (t := 0) (l := la) (k := f) (by omega) (by omega)
  obtain ⟨p', hAL', hlen'⟩ := hAL.step hca hea (f := f) (m := m) hpk.1 (by omega)
  have hma' := (accF_may (pi := f) (pt := (termF 0 0 la f).1) (es := sliceF 0 la (f + 1) m) hmb).1
  have hsl := slice_len (i := 0) (l := la) (f := f + 1) (m := m)
  have hs1 : lb.length < 4294967296 := by omega
  have hs2 : (sliceF 0 la (f + 1) m).length < 4294967296 := by omega
  have hpos : 0 < (la.length : Int) + 1 := by omega
  have hokb : okB 0 0 = true := hok0
  simp [toI_int, toL_list, toL_tup, toL_agg, toB_bool, hx, hlt', hLa, hPk, hw2, hkk, hTm, hTi, hmm, hw3, hSl, hAc, stD, hma, hmb, hs1, hs2, hpos, hokb]
  clear hsl hs2
  generalize (accF 0 0 lb f (termF 0 0 la f).1 (sliceF 0 la (f + 1) m)).2 = lb2 at hAL' hlen' hma'
  refine ⟨⟨hma', ?_⟩, fun hq => by omega⟩
  obtain ⟨J, hJd⟩ : ∃ J : List D → Prop, ∀ xs, J xs ↔ ∃ (al : Bool) (k : Nat), xs = [.bool al, .bool false, .int .i64 k, .int .i64 0, .int .i64 0, .list la, .int .i64 0, .int .i64 0, .list lb2] ∧ k ≤ lb2.length ∧ (al = true → k ≤ p') := ⟨_, fun _ => Iff.rfl⟩
  obtain ⟨Mm, hMd⟩ : ∃ M : List D → Nat, ∀ xs, M xs = (I (.list xs) 2).toNat := ⟨_, fun _ => rfl⟩
  refine LoopOk.intro J Mm ((hJd _).2 ⟨false, lb2.length, rfl, Nat.le_refl _, fun hq => by cases hq⟩) ?_
  intro xs hxs hJ
  clear hxs hx
  obtain ⟨al, k, rfl, hk, hal⟩ := (hJd _).1 hJ
  clear hJ
  by_cases hk0 : k = 0
  · subst hk0
    simp [toI_int, toL_list, toB_bool, hw1]
    refine ⟨⟨n3 + 1, lb2, ⟨rfl, rfl⟩, hlt, by omega, hma', p', hAL'⟩, ?_⟩
    show d3.length - ((n3 : Int) + 1).toNat < d3.length - (n3 : Int).toNat
    omega
  obtain ⟨y, hy⟩ : ∃ y, lb2[k - 1]? = some y := ⟨_, List.getElem?_eq_getElem (by omega)⟩
  have hkk1 : ((k : Int) - 1).toNat = k - 1 := by omega
  have hTb : termF 0 0 lb2 k = (tm y, 0) := by rw [termF_pos (by omega), hkk1, hy]
  have hSb : sliceF 0 lb2 k 1 = [y] := by rw [slice_one (by omega), hkk1, hy]
  have hw5 : IntKind.wrap .i64 ((k : Int) - 1) = ((k - 1 : Nat) : Int) := by rw [wrap64 (by omega) (by omega)]; omega
  have hkpos : 0 < k := by omega
  have hag : ∀ a : Bool, (a = true → k ≤ p') → J [.bool a, .bool false, .int .i64 ((k - 1 : Nat) : Int), .int .i64 0, .int .i64 0, .list la, .int .i64 0, .int .i64 0, .list lb2] ∧ Mm [.bool a, .bool false, .int .i64 ((k - 1 : Nat) : Int), .int .i64 0, .int .i64 0, .list la, .int .i64 0, .int .i64 0, .list lb2] < Mm [.bool al, .bool false, .int .i64 (k : Int), .int .i64 0, .int .i64 0, .list la, .int .i64 0, .int .i64 0, .list lb2] := by
    intro a ha
    refine ⟨(hJd _).2 ⟨a, k - 1, rfl, by omega, fun hq => by have := ha hq; omega⟩, ?_⟩
    rw [hMd, hMd]
    show (((k - 1 : Nat) : Int)).toNat < ((k : Nat) : Int).toNat
    omega
  rcases hx : la[k - 1]? with _ | x
  · have hTa : termF 0 0 la k = (0, 3) := by rw [termF_pos (by omega), hkk1, hx]
    simp [toI_int, toL_list, toL_tup, toL_agg, toB_bool, hTm, hTa, hTb, stD, hma, hma', hkpos, hw5]
    exact ⟨hag al hal, fun hq => by omega⟩
  · have hTa : termF 0 0 la k = (tm x, 0) := by rw [termF_pos (by omega), hkk1, hx]
    have hSa : sliceF 0 la k 1 = [x] := by rw [slice_one (by omega), hkk1, hx]
    have hkp : (al = true ∨ tm x = tm y) → k ≤ p' ∧ x = y := by
      intro hq
      have hkp' : k ≤ p' := by
        rcases hq with hq | hq
        · exact hal hq
        · rcases Nat.lt_or_ge (k - 1) p' with h' | h'
          · omega
          · have h1 := hAL'.ge h' hy
            have h2 := hea x (List.mem_of_getElem? hx)
            omega
      have := hAL'.lt (k := k - 1) (by omega)
      rw [hx, hy] at this
      exact ⟨hkp', by injection this with h; exact h.symm⟩
    have hsame : (al = true ∨ tm x = tm y) → sameL [x] [y] = true := fun hq => by rw [(hkp hq).2]; exact sameL_refl _
    simp [toI_int, toL_list, toL_tup, toL_agg, toB_bool, hTm, hTa, hTb, stD, hma, hma', hkpos, hw5, hSl, hSa, hSb, hEs, hokb]
    refine ⟨⟨fun h1 h2 => ?_, fun _ => ?_⟩, fun hq => by omega⟩
    · rw [hsame h1] at h2; cases h2
    · refine hag (al || tm x == tm y) fun hq => (hkp ?_).1
      simpa using hq
theorem con3 : Con Try.prog pre phi tb3 := con_cons c3 con8

end Go.Proofs.Ytgljfheohnlpfaa
