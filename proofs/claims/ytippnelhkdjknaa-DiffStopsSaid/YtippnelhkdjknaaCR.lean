/-
  What each function of this seat computes, and that it keeps to it (R).
-/
import Derived.Test.YtippnelhkdjknaaCB
set_option linter.unusedSimpArgs false
set_option linter.unusedVariables false
namespace Go.Proofs.Ytippnelhkdjknaa
open Go Go.Eng Go.Proofs

theorem c12 : PureFn Try.prog 12 s12 (pre 12) (phi 12) := by
  refine pureFn_auto (given := []) mix con18 Try.func12 (by kernel_rfl) (v := vc12) (by kernel_rfl) ?_
  intro ds h hp
  obtain ⟨_, _, rfl, gs, _, _, rfl, gj, rfl⟩ := h
  obtain ⟨s, rfl, hs⟩ := AStore.cases gs
  obtain ⟨j, rfl, hj⟩ := AJob.cases gj
  have hp' : room13 s j := by
    have h : room13 (AStore.dec s.enc) (AJob.dec j.enc) := hp
    rwa [AStore.dec_enc, AJob.dec_enc] at h
  have hR : phi 12 [s.enc, j.enc] = encL slotE (slotsL s j) := by
    show D.list ((slotsL (AStore.dec s.enc) (AJob.dec j.enc)).map slotE) = _
    rw [AStore.dec_enc, AJob.dec_enc]; rfl
  have hml : (140737488355328 : Nat) ≤ maxLen := by decide
  simp only [vc12, vh_obl, vh_call, vh_room, vh_branch, vh_loop, vh_again, vh_ret, vh_any, vh_hav, vh_range, pre, implies_true, true_and, forall_eq]
  rw [hR]
  by_cases hst : j.Stopped = true
  · refine LoopOk.intro (fun xs => xs = [encL slotE [], .int .i64 0]) (fun _ => 0) rfl ?_
    rintro xs hxs rfl
    simp [updV, den, U.den, B.den, upd, condB, toL_list, toL_agg, toL_tup, toL_ptr, toL_fn, toI_int, toB_bool, AJob.toL, encL_toL, hst, slotsL]
  have hst' : j.Stopped = false := by simpa using hst
  have hL : slotsL s j = slotsF s j j.Groups 0 := by simp [slotsL, hst']
  unfold room13 at hp'
  rw [hL] at hp' ⊢
  generalize hLL : slotsF s j j.Groups 0 = L at hp' ⊢
  refine LoopOk.intro (fun xs => ∃ (n : Nat) (out : List (Int × Int)), xs = [encL slotE out, .int .i64 n] ∧ n ≤ j.Groups.length ∧ out ++ slotsF s j (j.Groups.drop n) n = L) (FM j.Groups 1) ⟨0, [], rfl, Nat.zero_le _, by rw [← hLL]; rfl⟩ ?_
  rintro xs hxs ⟨n, out, rfl, hle, hf⟩
  rcases hx : j.Groups[n]? with _ | x
  · have hge := ge_none hx
    rw [drop_none hx, slotsF, List.append_nil] at hf
    simp [updV, den, U.den, B.den, upd, condB, toL_list, toL_agg, toL_tup, toL_ptr, toL_fn, toI_int, toB_bool, AJob.toL, encL_toL, hst', Nat.not_lt.2 hge, hf]
    try (intro h; omega)
  obtain ⟨hlt, hge⟩ := List.getElem?_eq_some_iff.1 hx
  have hw := next64 hj.Groups.1.1 hlt
  have hcl := cntG_le x
  rw [drop_some hx, slotsF] at hf
  have hf' : (out ++ (idxL s j x).map (fun i => ((n : Int), i))) ++ slotsF s j (j.Groups.drop (n + 1)) ((n : Int) + 1) = L := by rw [← hf]; simp
  have hlen : out.length + (idxL s j x).length ≤ L.length := by rw [← hf']; simp
  have hlast : j.Groups.length - ((n : Int) + 1).toNat < j.Groups.length - (n : Int).toNat := by omega
  by_cases hk : j.Kind = 3
  · simp [updV, den, U.den, B.den, upd, condB, toL_list, toL_agg, toL_tup, toL_ptr, toL_fn, toI_int, toB_bool, AJob.toL, encL_toL, hst', hlt, hk, Nat.not_le.2 hlt]
    have hi : idxL s j x = nodesF s.Nodes [] := by simp [idxL, hk]
    rw [hi] at hf' hlen
    refine LoopOk.intro (fun xs => ∃ (k : Nat) (o : List Int), xs = [ints o, encL slotE (out ++ o.map (fun i => ((n : Int), i))), .int .i64 k] ∧ k ≤ s.Nodes.length ∧ o.length ≤ k ∧ nodesF (s.Nodes.drop k) o = nodesF s.Nodes []) (FM s.Nodes 2) ⟨0, [], by simp [ints, encL], Nat.zero_le _, Nat.zero_le _, rfl⟩ ?_
    rintro xs hxs ⟨k, o, rfl, hle', hol, hf2⟩
    rcases hy : s.Nodes[k]? with _ | y
    · have hge' := ge_none hy
      rw [drop_none hy, nodesF] at hf2
      rw [← hf2] at hf'
      simp [updV, den, U.den, B.den, upd, condB, toL_list, toL_agg, toL_tup, toL_ptr, toL_fn, toI_int, toB_bool, AStore.toL, encL_toL, hge', Nat.not_lt.2 hge', hw]
      exact ⟨⟨n + 1, _, ⟨rfl, by simp⟩, hlt, by simpa using hf'⟩, hlast⟩
    · obtain ⟨hlt', hge'⟩ := List.getElem?_eq_some_iff.1 hy
      have hw2 := next64 hs.Nodes.1.1 hlt'
      have h48 : s.Nodes.length * 56 ≤ 140737488355328 := hs.Nodes.1.2
      have hmn : s.Nodes.length ≤ maxLen := hs.Nodes.1.1
      have hC : phi 25 [ints o, .int .i64 y.ID] = .bool (decide (y.ID ∈ o)) := by simp [phi, intsOf_ints, toI_int]
      rw [drop_some hy, nodesF] at hf2
      simp [updV, den, U.den, B.den, upd, condB, toL_list, toL_agg, toL_tup, toL_ptr, toL_fn, toI_int, toB_bool, AStore.toL, ANode.toL, ints_toL, encL_toL, hge', hlt', hC, hw2, Nat.not_le.2 hlt', snoc_int]
      simp only [← List.append_assoc, ← List.map_append, snoc_slot]
      have hlast2 : s.Nodes.length - ((k : Int) + 1).toNat < s.Nodes.length - (k : Int).toNat := by omega
      refine ⟨fun h1 h2 h3 => ?_, fun h1 => ?_⟩
      · rw [if_pos (by simp [h1, h2, h3])] at hf2
        have hpre := nodesF_pre (s.Nodes.drop (k + 1)) (o ++ [y.ID])
        rw [hf2] at hpre
        obtain ⟨t, ht⟩ := hpre
        rw [ht] at hlen
        simp at hlen
        refine ⟨⟨by omega, by omega⟩, ⟨by omega, by omega⟩, ⟨k + 1, o ++ [y.ID], ⟨rfl, by simp [encL, slotE], by simp⟩, hlt', by simp; omega, hf2⟩, hlast2⟩
      · rw [if_neg (by simpa using h1)] at hf2
        exact ⟨⟨k + 1, o, ⟨rfl, rfl, by simp⟩, hlt', by omega, hf2⟩, hlast2⟩
  · simp [updV, den, U.den, B.den, upd, condB, toL_list, toL_agg, toL_tup, toL_ptr, toL_fn, toI_int, toB_bool, AJob.toL, encL_toL, hst', hlt, hk, Nat.not_le.2 hlt]
    have hi : idxL s j x = rangeI (cntG x).toNat := by simp [idxL, hk]
    rw [hi] at hf' hlen
    rw [rangeI_length] at hlen
    refine LoopOk.intro (fun xs => ∃ k : Nat, xs = [encL slotE (out ++ (rangeI k).map (fun i => ((n : Int), i))), .int .i64 k] ∧ (k : Int) ≤ cntG x) (NM (cntG x) 1) ⟨0, by simp [rangeI, encL], by omega⟩ ?_
    rintro xs hxs ⟨k, rfl, hkc⟩
    have hw2 : IntKind.i64.wrap ((k : Int) + 1) = (k : Int) + 1 := wrap64 (by omega) (by omega)
    by_cases hk2 : (k : Int) < cntG x
    · have hk3 : (k : Int) < x.Count ∧ (k : Int) < 4 := by unfold cntG at hk2; omega
      simp [updV, den, U.den, B.den, upd, condB, toL_list, toL_agg, toL_tup, toL_ptr, toL_fn, toI_int, toB_bool, encL_toL, hge, AGrp.toL, hk3.1, hk3.2, Int.not_le.2 hk3.1, Int.not_le.2 hk3.2, hw2, rangeI_length]
      simp only [← List.append_assoc, ← List.map_append, snoc_slot]
      refine ⟨⟨by omega, by omega⟩, ⟨k + 1, ⟨by rw [rangeI_succ]; simp [encL, slotE], by simp⟩, by omega⟩, ?_⟩
      show (cntG x - ((k : Int) + 1)).toNat < (cntG x - (k : Int)).toNat
      omega
    · have hk3 : ¬ ((k : Int) < x.Count ∧ (k : Int) < 4) := by unfold cntG at hk2 hkc; omega
      have hke : k = (cntG x).toNat := by omega
      rw [← hke] at hf'
      simp [updV, den, U.den, B.den, upd, condB, toL_list, toL_agg, toL_tup, toL_ptr, toL_fn, toI_int, toB_bool, encL_toL, hge, AGrp.toL, hw]
      refine ⟨fun h1 h2 => absurd ⟨h1, h2⟩ hk3, fun _ => ⟨⟨n + 1, _, ⟨rfl, by simp⟩, hlt, by simpa using hf'⟩, hlast⟩⟩
theorem con12 : Con Try.prog pre phi tb12 := con_cons c12 con18

theorem c24 : PureFn Try.prog 24 s24 (pre 24) (phi 24) := by
  refine pureFn_auto (given := []) mix con12 Try.func24 (by kernel_rfl) (v := vc24) (by kernel_rfl) ?_
  intro ds h hp
  obtain rfl := h
  simp only [vc24, vh_obl, vh_call, vh_room, vh_branch, vh_loop, vh_again, vh_ret, vh_any, vh_hav, vh_range]
  kernel_rfl
theorem con24 : Con Try.prog pre phi tb24 := con_cons c24 con12

end Go.Proofs.Ytippnelhkdjknaa
