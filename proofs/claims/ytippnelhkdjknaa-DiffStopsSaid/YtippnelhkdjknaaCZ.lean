/-
  What each function of this seat computes, and that it keeps to it (Z).
-/
import Derived.Test.YtippnelhkdjknaaCY
set_option linter.unusedSimpArgs false
set_option linter.unusedVariables false
namespace Go.Proofs.Ytippnelhkdjknaa
open Go Go.Eng Go.Proofs


theorem okDiff : XOk Try.prog pre phi xtDiff where
  keys T kt h := by
    simp only [xtDiff, lk] at h
    split at h
    · rename_i e; injection h with h; subst e h; exact key55
    · split at h
      · rename_i e; injection h with h; subst e h; exact key59
      · cases h
  eat k sg h := by
    simp only [xtDiff, lk] at h
    split at h
    · rename_i e; injection h with h; subst e h; exact c21
    · cases h
  its := okRoll.its
  ne := okRoll.ne
theorem hRoll (s : AStore) (j : AJob) (a b : List Int) : phi 21 [s.enc, j.enc, ints a, ints b] = ints (rollL s j a b) := by
  show D.list ((rollL (AStore.dec s.enc) (AJob.dec j.enc) (intsOf (ints a)) (intsOf (ints b))).map (D.int .i64)) = _
  rw [AStore.dec_enc, AJob.dec_enc, intsOf_ints, intsOf_ints]; rfl
theorem hRollPre (s : AStore) (j : AJob) (a b : List Int) : pre 21 [s.enc, j.enc, ints a, ints b] = roomR s j a b := by
  show roomR (AStore.dec s.enc) (AJob.dec j.enc) (intsOf (ints a)) (intsOf (ints b)) = _
  rw [AStore.dec_enc, AJob.dec_enc, intsOf_ints, intsOf_ints]
theorem hDone (s : AStore) (j : AJob) (p : Int × Int) : phi 23 [s.enc, j.enc, .agg [.int .i64 p.1, .int .i64 p.2]] = .bool (doneB s j p) := by
  show D.bool (doneB (AStore.dec s.enc) (AJob.dec j.enc) (slotD (slotE p))) = _
  rw [AStore.dec_enc, AJob.dec_enc, slotD_E]
theorem hPre (l : List D) : pre 17 l = True ∧ pre 18 l = True ∧ pre 29 l = True ∧ pre 19 l = True ∧ pre 20 l = True ∧ pre 22 l = True ∧ pre 23 l = True := ⟨rfl, rfl, rfl, rfl, rfl, rfl, rfl⟩
theorem hOver (a : AAlc) : phi 19 [a.enc] = .bool (over a) := rfl
theorem c8 : PureFn Try.prog 8 s8 (pre 8) (phi 8) := by
  refine pureFn_autoX (given := [(1000000, {drop := [1000000]}), (12, {drop := [1000002]}), (25, {drop := [1000002, 2000010]})]) (x := xtDiff) mix con24 okDiff Try.func8 (by kernel_rfl) (v := vc8) (by kernel_rfl) ?_
  intro ds h hp
  obtain ⟨_, _, rfl, gs, _, _, rfl, ⟨job, rfl, _⟩, rfl⟩ := h
  obtain ⟨s, rfl, hs⟩ := AStore.cases gs
  have hp' : roomJ s job := by
    have h : roomJ (AStore.dec s.enc) job := hp
    rwa [AStore.dec_enc] at h
  have hR : phi 8 [s.enc, .int .i64 job] = .tup [ints (diffL s job).1, encL slotE (diffL s job).2] := by
    show D.tup [ints (diffL (AStore.dec s.enc) job).1, encL slotE (diffL (AStore.dec s.enc) job).2] = _
    rw [AStore.dec_enc]
  have hml : 140737488355328 ≤ maxLen := by decide
  simp only [vc8, vh_obl, vh_call, vh_room, vh_branch, vh_loop, vh_again, vh_ret, vh_any, vh_hav, vh_range, implies_true, true_and]
  rcases find0 (fun x : AJob => x.ID == job) s.Jobs with ⟨h1, h2⟩ | ⟨nj, j, h1, hx, h2⟩
  · have h1' : jobI s job = -1 := h1
    simp [-List.any_eq_true, -List.any_eq_false, updV, den, U.den, B.den, upd, condB, toL_list, toL_agg, toL_tup, toL_ptr, toL_fn, toI_int, toB_bool, AStore.toL, AStore.fold, ANode.toL, AAlc.toL, AJob.toL, AGrp.toL, AEvl.toL, ARes.toL, ARes.eta, encL_toL, hFinds, h1', hR, diffL, h2, hPre]
    exact ⟨rfl, rfl⟩
  have h1' : jobI s job = nj := h1
  obtain ⟨hlt, hge⟩ := List.getElem?_eq_some_iff.1 hx
  have hn0 : ¬ ((nj : Int) < 0) := by omega
  have hpj := hp' j h2
  have hD : diffL s job = (stopL s j, fillL s j) := by simp [diffL, h2]
  rw [hD] at hR
  simp [-List.any_eq_true, -List.any_eq_false, updV, den, U.den, B.den, upd, condB, toL_list, toL_agg, toL_tup, toL_ptr, toL_fn, toI_int, toB_bool, AStore.toL, AStore.fold, ANode.toL, AAlc.toL, AJob.toL, AGrp.toL, AEvl.toL, ARes.toL, ARes.eta, encL_toL, AJob.fold, AAlc.fold, hFinds, h1', hlt, hge, hn0, hSlots18, capF_toL, hIter, hPre]
  generalize hL : slotsL s j = L
  rw [hL] at hpj
  have hfL : fillL s j = L.filter (fillB s j) := by rw [← hL]; rfl
  refine RangeOk.intro (fun i xs => xs = [encL slotE (keysOf L i)]) rfl ?_ ?_
  · rintro i x xs hx hxt hxs rfl
    obtain ⟨p, hp1, rfl⟩ := slots_get hx
    have hil := lt_some hp1
    have hkl := keysOf_len L i
    simp [-List.any_eq_true, -List.any_eq_false, updV, den, U.den, B.den, upd, condB, toL_list, toL_agg, toL_tup, toL_ptr, toL_fn, toI_int, toB_bool, AStore.toL, AStore.fold, ANode.toL, AAlc.toL, AJob.toL, AGrp.toL, AEvl.toL, ARes.toL, ARes.eta, encL_toL, slotE_toL, encL_toL, cons_slotm, keysOf_succ hp1]
    exact ⟨by omega, by omega⟩
  · rintro xs hxs rfl
    refine LoopOk.intro (fun xs => ∃ (n : Nat) (st sp : List Int), xs = [ints st, .int .i64 n, ints sp] ∧ n ≤ s.Allocs.length ∧ stopF s j L (s.Allocs.drop n) n st sp = stopsOf s j ∧ st.length ≤ n ∧ sp.length ≤ n) (FM s.Allocs 1) ⟨0, [], [], rfl, Nat.zero_le _, by rw [← hL]; rfl, Nat.le_refl _, Nat.le_refl _⟩ ?_
    rintro xs hxs ⟨n, st, sp, rfl, hle, hf, hl1, hl2⟩
    rcases hy : s.Allocs[n]? with _ | a
    · have hge' := ge_none hy
      have hn' : ¬ ((n : Int) < s.Allocs.length) := by omega
      rw [drop_none hy, stopF] at hf
      by_cases hk : j.Kind = 1
      · have hstL : stopL s j = rollL s j st sp := by simp [stopL, hk, ← hf]
        have hrm : roomR s j st sp := by
          unfold roomR; rw [hL]; exact ⟨by omega, by omega⟩
        simp [-List.any_eq_true, -List.any_eq_false, updV, den, U.den, B.den, upd, condB, toL_list, toL_agg, toL_tup, toL_ptr, toL_fn, toI_int, toB_bool, AStore.toL, AStore.fold, ANode.toL, AAlc.toL, AJob.toL, AGrp.toL, AEvl.toL, ARes.toL, ARes.eta, encL_toL, AJob.fold, hn', hge', hk, hRoll, hRollPre, hrm, hSlots18, capF_toL, hIter, hL, hPre, hR]
        refine RangeOk.intro (fun i xs => xs = [encL slotE ((L.take i).filter (fillB s j))]) (by simp [encL]) ?_ ?_
        · rintro i x xs hx hxt hxs rfl
          obtain ⟨p, hp1, rfl⟩ := slots_get hx
          have hil := lt_some hp1
          have hfl := filter_take_le (f := fillB s j) (l := L) (i := i) (by omega)
          have hfs := filter_take (f := fillB s j) hp1
          simp [-List.any_eq_true, -List.any_eq_false, updV, den, U.den, B.den, upd, condB, toL_list, toL_agg, toL_tup, toL_ptr, toL_fn, toI_int, toB_bool, AStore.toL, AStore.fold, ANode.toL, AAlc.toL, AJob.toL, AGrp.toL, AEvl.toL, ARes.toL, ARes.eta, encL_toL, slotE_toL, hSlot, slI_fold, hDone, encL_toL, hPre, snoc_slotm, hfs]
          by_cases hq : slI s j p < 0 <;> by_cases hd : doneB s j p = true <;> simp [hq, hd, fillB, Int.not_lt.1, Int.not_le.2, encL]
          all_goals first | omega | (try trace_state)
        · rintro xs hxs rfl
          simp [-List.any_eq_true, -List.any_eq_false, updV, den, U.den, B.den, upd, condB, toL_list, toL_agg, toL_tup, toL_ptr, toL_fn, toI_int, toB_bool, AStore.toL, AStore.fold, ANode.toL, AAlc.toL, AJob.toL, AGrp.toL, AEvl.toL, ARes.toL, ARes.eta, encL_toL, hstL, hfL]
      · have hstL : stopL s j = st := by simp [stopL, hk, ← hf]
        simp [-List.any_eq_true, -List.any_eq_false, updV, den, U.den, B.den, upd, condB, toL_list, toL_agg, toL_tup, toL_ptr, toL_fn, toI_int, toB_bool, AStore.toL, AStore.fold, ANode.toL, AAlc.toL, AJob.toL, AGrp.toL, AEvl.toL, ARes.toL, ARes.eta, encL_toL, AJob.fold, hn', hge', hk, hSlots18, capF_toL, hIter, hL, hPre, hR]
        refine RangeOk.intro (fun i xs => xs = [encL slotE ((L.take i).filter (fillB s j))]) (by simp [encL]) ?_ ?_
        · rintro i x xs hx hxt hxs rfl
          obtain ⟨p, hp1, rfl⟩ := slots_get hx
          have hil := lt_some hp1
          have hfl := filter_take_le (f := fillB s j) (l := L) (i := i) (by omega)
          have hfs := filter_take (f := fillB s j) hp1
          simp [-List.any_eq_true, -List.any_eq_false, updV, den, U.den, B.den, upd, condB, toL_list, toL_agg, toL_tup, toL_ptr, toL_fn, toI_int, toB_bool, AStore.toL, AStore.fold, ANode.toL, AAlc.toL, AJob.toL, AGrp.toL, AEvl.toL, ARes.toL, ARes.eta, encL_toL, slotE_toL, hSlot, slI_fold, hDone, encL_toL, hPre, snoc_slotm, hfs]
          by_cases hq : slI s j p < 0 <;> by_cases hd : doneB s j p = true <;> simp [hq, hd, fillB, Int.not_lt.1, Int.not_le.2, encL]
          all_goals first | omega | (try trace_state)
        · rintro xs hxs rfl
          simp [-List.any_eq_true, -List.any_eq_false, updV, den, U.den, B.den, upd, condB, toL_list, toL_agg, toL_tup, toL_ptr, toL_fn, toI_int, toB_bool, AStore.toL, AStore.fold, ANode.toL, AAlc.toL, AJob.toL, AGrp.toL, AEvl.toL, ARes.toL, ARes.eta, encL_toL, hstL, hfL]
    · obtain ⟨hlt', hge'⟩ := List.getElem?_eq_some_iff.1 hy
      have hw := next64 hs.Allocs.1.1 hlt'
      rw [drop_some hy, stopF] at hf
      have hkm : ∀ g i : Int, decide ((g, i) ∈ keysOf L L.length) = decide ((g, i) ∈ L) := fun g i => by rw [Bool.eq_iff_iff]; simp [keysOf_mem]
      have nx : ∀ (st' sp' : List Int), stopF s j L (s.Allocs.drop (n + 1)) ((n : Int) + 1) st' sp' = stopsOf s j → st'.length ≤ n + 1 → sp'.length ≤ n + 1 →
          (∃ (n_1 : Nat) (st_1 sp_1 : List Int), (ints st' = ints st_1 ∧ (n : Int) + 1 = (n_1 : Int) ∧ ints sp' = ints sp_1) ∧ n_1 ≤ s.Allocs.length ∧ stopF s j L (s.Allocs.drop n_1) (n_1 : Int) st_1 sp_1 = stopsOf s j ∧ st_1.length ≤ n_1 ∧ sp_1.length ≤ n_1) ∧
          FM s.Allocs 1 [ints st', .int .i64 ((n : Int) + 1), ints sp'] < FM s.Allocs 1 [ints st, .int .i64 (n : Int), ints sp] := fun st' sp' h h1 h2 =>
        ⟨⟨n + 1, st', sp', ⟨rfl, by simp, rfl⟩, hlt', by simpa using h, h1, h2⟩, by show s.Allocs.length - ((n : Int) + 1).toNat < s.Allocs.length - (n : Int).toNat; omega⟩
      rcases nodeI_at s a.Node with hq | ⟨m, b, hm, hb, hbt⟩
      · have hd : drainB s a.Node = false := by simp [drainB, hq]
        simp [-List.any_map, -List.any_eq_true, -List.any_eq_false, updV, den, U.den, B.den, upd, condB, toL_list, toL_agg, toL_tup, toL_ptr, toL_fn, toI_int, toB_bool, AStore.toL, AStore.fold, ANode.toL, AAlc.toL, AJob.toL, AGrp.toL, AEvl.toL, ARes.toL, ARes.eta, encL_toL, AJob.fold, AAlc.toL, AAlc.fold, hlt', hge', Nat.not_le.2 hlt', hOver, hw, hFinds, hPre, encL_toL, slots_has, keysOf_mem, ints_len, snoc_ints, cons_ints, hq]
        refine ⟨fun hc => ?_, fun g1 g2 g3 => ⟨fun hc => ?_, fun hc1 hc2 => ?_⟩⟩
        · rw [if_pos (by simpa [skipB] using hc)] at hf
          exact nx _ _ hf (by omega) (by omega)
        · rw [if_neg (by simp [skipB, g1, g2, g3]), if_pos (by simpa [stopB, hd] using hc)] at hf
          exact ⟨⟨by omega, by omega⟩, ⟨by omega, by omega⟩, nx _ _ hf (by simp; omega) (by simp; omega)⟩
        · rw [if_neg (by simp [skipB, g1, g2, g3]), if_neg (by simp [stopB, hd, hc1]; exact hc2)] at hf
          exact nx _ _ hf (by omega) (by omega)
      · obtain ⟨hltm, hgem⟩ := List.getElem?_eq_some_iff.1 hb
        rw [hm] at hbt
        have h0m : (0 : Int) ≤ m := by omega
        have hd : drainB s a.Node = b.Drain := by simp [drainB, hm, hbt]
        simp [-List.any_map, -List.any_eq_true, -List.any_eq_false, updV, den, U.den, B.den, upd, condB, toL_list, toL_agg, toL_tup, toL_ptr, toL_fn, toI_int, toB_bool, AStore.toL, AStore.fold, ANode.toL, AAlc.toL, AJob.toL, AGrp.toL, AEvl.toL, ARes.toL, ARes.eta, encL_toL, AJob.fold, AAlc.toL, ANode.toL, AAlc.fold, hlt', hge', Nat.not_le.2 hlt', hOver, hw, hFinds, hPre, encL_toL, slots_has, keysOf_mem, ints_len, snoc_ints, cons_ints, hm, hltm, hgem, h0m]
        refine ⟨fun hc => ?_, fun g1 g2 g3 => ⟨fun hc => ?_, fun hc1 hc2 hc3 => ?_⟩⟩
        · rw [if_pos (by simpa [skipB] using hc)] at hf
          exact nx _ _ hf (by omega) (by omega)
        · rw [if_neg (by simp [skipB, g1, g2, g3]), if_pos (by simpa [stopB, hd] using hc)] at hf
          exact ⟨⟨by omega, by omega⟩, ⟨by omega, by omega⟩, nx _ _ hf (by simp; omega) (by simp; omega)⟩
        · rw [if_neg (by simp [skipB, g1, g2, g3]), if_neg (by simp [stopB, hd, hc1, hc2]; exact hc3)] at hf
          exact nx _ _ hf (by omega) (by omega)
theorem con8 : Con Try.prog pre phi tb8 := con_cons c8 con24

end Go.Proofs.Ytippnelhkdjknaa
