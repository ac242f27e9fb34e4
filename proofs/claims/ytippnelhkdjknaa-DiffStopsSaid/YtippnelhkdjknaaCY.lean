/-
  What each function of this seat computes, and that it keeps to it (Y).
-/
import Derived.Test.YtippnelhkdjknaaCR
import Derived.Test.YtippnelhkdjknaaKM
set_option linter.unusedSimpArgs false
set_option linter.unusedVariables false
namespace Go.Proofs.Ytippnelhkdjknaa
open Go Go.Eng Go.Proofs


theorem okRoll : XOk Try.prog pre phi xtRoll where
  keys T kt h := by
    simp only [xtRoll, lk] at h
    split at h
    · rename_i e; injection h with h; subst e h; exact key59
    · cases h
  eat k sg h := by cases h
  its k y h := by
    simp only [xtRoll, itsS, lk] at h
    split at h
    · rename_i e; injection h with h; subst e h; exact it29
    · cases h
  ne := by simp [xtRoll, itsS]
theorem hSlots18 (s : AStore) (j : AJob) : phi 18 [s.enc, j.enc] = capF s j := rfl
theorem hIter (s : AStore) (j : AJob) : phi 29 [jcap j, scap s] = encL slotE (slotsL s j) := by
  show D.list ((slotsL (AStore.dec (scap s)) (AJob.dec (jcap j))).map slotE) = _
  rw [show AStore.dec (scap s) = s from store_ptr s, show AJob.dec (jcap j) = j from job_ptr j]; rfl
theorem c21 : EatFn Try.prog 21 s21 (pre 21) (phi 21) := by
  refine eatFn_auto (given := [(1000000, {drop := [1000000]})]) (x := xtRoll) mix con24 okRoll Try.func21 (by kernel_rfl) (v := vc21) (by kernel_rfl) ?_
  intro ds lo lm h hlo hlm hp
  obtain ⟨_, _, rfl, gs, _, _, rfl, gj, rfl⟩ := h
  obtain ⟨s, rfl, hs⟩ := AStore.cases gs
  obtain ⟨j, rfl, hj⟩ := AJob.cases gj
  obtain ⟨stop, rfl, hst, _⟩ := ints_enc hlo
  obtain ⟨stops, rfl, hsts, _⟩ := ints_enc hlm
  have hp' : roomR s j stop stops := by
    have h : roomR (AStore.dec s.enc) (AJob.dec j.enc) (intsOf (ints stop)) (intsOf (ints stops)) := hp
    rwa [AStore.dec_enc, AJob.dec_enc, intsOf_ints, intsOf_ints] at h
  have hR : phi 21 [s.enc, j.enc, ints stop, ints stops] = ints (rollL s j stop stops) := by
    show D.list ((rollL (AStore.dec s.enc) (AJob.dec j.enc) (intsOf (ints stop)) (intsOf (ints stops))).map (D.int .i64)) = _
    rw [AStore.dec_enc, AJob.dec_enc, intsOf_ints, intsOf_ints]; rfl
  simp only [vc21, vh_obl, vh_call, vh_room, vh_branch, vh_loop, vh_again, vh_ret, vh_any, vh_hav, vh_range, pre, implies_true, true_and]
  simp [-List.any_eq_true, -List.any_eq_false, updV, den, U.den, B.den, upd, condB, toL_list, toL_agg, toL_tup, toL_ptr, toL_fn, toI_int, toB_bool, AStore.toL, AStore.fold, ANode.toL, AAlc.toL, AJob.toL, AGrp.toL, AEvl.toL, ARes.toL, ARes.eta, encL_toL, AJob.fold, hSlots18, capF_toL, hIter, hR]
  generalize hL : slotsL s j = L
  have hb1 := hp'.1
  have hb2 := hp'.2
  rw [hL] at hb1 hb2
  have hml : 140737488355328 ≤ maxLen := by decide
  refine RangeOk.intro (fun i xs => xs = [.int .i64 ((L.take i).countP (mv1 s j stops))]) (by simp) ?_ ?_
  · rintro i x xs hx hxt hxs rfl
    obtain ⟨p, hp1, rfl⟩ := slots_get hx
    have hq := slI_at s j p
    have hcl : (L.take i).countP (mv1 s j stops) ≤ L.length := countP_take_le
    have hct := countP_take (f := mv1 s j stops) hp1
    have hw : IntKind.i64.wrap (((L.take i).countP (mv1 s j stops) : Nat) + 1) = (((L.take i).countP (mv1 s j stops) : Nat) : Int) + 1 := wrap64 (by omega) (by omega)
    rcases hq with hq | ⟨n, a, hn, ha, _, hat⟩
    · have hm : mv1 s j stops p = true := by simp [mv1, hq]
      rw [hm] at hct
      simp [-List.any_eq_true, -List.any_eq_false, updV, den, U.den, B.den, upd, condB, toL_list, toL_agg, toL_tup, toL_ptr, toL_fn, toI_int, toB_bool, AStore.toL, AStore.fold, ANode.toL, AAlc.toL, AJob.toL, AGrp.toL, AEvl.toL, ARes.toL, ARes.eta, encL_toL, slotE_toL, hSlot, slI_fold, ints_has, hq, hct, hw]
    · obtain ⟨hlt, hge⟩ := List.getElem?_eq_some_iff.1 ha
      rw [hn] at hat
      have hm : mv1 s j stops p = (decide ((n : Int) ∈ stops) || a.Stop || (a.Version == j.Version && a.State != 2)) := by
        have h0 : ¬ ((n : Int) < 0) := by omega
        simp [mv1, hn, hat, h0]
      rw [hm] at hct
      have h0 : (0 : Int) ≤ n := by omega
      have h0' : ¬ ((n : Int) < 0) := by omega
      simp [-List.any_eq_true, -List.any_eq_false, updV, den, U.den, B.den, upd, condB, toL_list, toL_agg, toL_tup, toL_ptr, toL_fn, toI_int, toB_bool, AStore.toL, AStore.fold, ANode.toL, AAlc.toL, AJob.toL, AGrp.toL, AEvl.toL, ARes.toL, ARes.eta, encL_toL, slotE_toL, hSlot, slI_fold, ints_has, hn, hct, hw, hlt, hge, AAlc.toL, h0']
      by_cases h1 : (n : Int) ∈ stops <;> by_cases h2 : a.Stop = true <;> by_cases h3 : a.Version = j.Version <;> by_cases h4 : a.State = 2 <;> simp [h1, h2, h3, h4]
  · rintro xs hxs rfl
    simp [-List.any_eq_true, -List.any_eq_false, updV, den, U.den, B.den, upd, condB, toL_list, toL_agg, toL_tup, toL_ptr, toL_fn, toI_int, toB_bool, AStore.toL, AStore.fold, ANode.toL, AAlc.toL, AJob.toL, AGrp.toL, AEvl.toL, ARes.toL, ARes.eta, encL_toL, AJob.fold, hSlots18, capF_toL, hIter, hR, hL]
    have hcl : L.countP (mv1 s j stops) ≤ L.length := List.countP_le_length
    refine RangeOk.intro (fun i xs => ∃ (st sp : List Int) (m : Int), xs = [ints st, ints sp, .int .i64 m] ∧ rollF s j (L.drop i) st sp m = rollL s j stop stops ∧ st.length ≤ stop.length + i ∧ sp.length ≤ stops.length + i ∧ 0 ≤ m ∧ m ≤ L.length + i) ⟨stop, stops, _, rfl, by unfold rollL; rw [hL]; rfl, Nat.le_refl _, Nat.le_refl _, by omega, by omega⟩ ?_ ?_
    · rintro i x xs hx hxt hxs ⟨st, sp, m, rfl, hf, hl1, hl2, hm1, hm2⟩
      obtain ⟨p, hp1, rfl⟩ := slots_get hx
      have hil := lt_some hp1
      have hw : IntKind.i64.wrap (m + 1) = m + 1 := wrap64 (by omega) (by omega)
      rw [drop_some hp1, rollF] at hf
      by_cases hpm : j.Parallel ≤ m
      · rw [if_pos hpm] at hf
        simp [-List.any_eq_true, -List.any_eq_false, updV, den, U.den, B.den, upd, condB, toL_list, toL_agg, toL_tup, toL_ptr, toL_fn, toI_int, toB_bool, AStore.toL, AStore.fold, ANode.toL, AAlc.toL, AJob.toL, AGrp.toL, AEvl.toL, ARes.toL, ARes.eta, encL_toL, hpm, hf, Int.not_lt.2 hpm]
      · rw [if_neg hpm] at hf
        have hpm' : m < j.Parallel := by omega
        rcases slI_at s j p with hq | ⟨n, a, hn, ha, _, hat⟩
        · have hm : mv2 s j sp p = true := by simp [mv2, hq]
          rw [if_pos hm] at hf
          simp [-List.any_eq_true, -List.any_eq_false, updV, den, U.den, B.den, upd, condB, toL_list, toL_agg, toL_tup, toL_ptr, toL_fn, toI_int, toB_bool, AStore.toL, AStore.fold, ANode.toL, AAlc.toL, AJob.toL, AGrp.toL, AEvl.toL, ARes.toL, ARes.eta, encL_toL, slotE_toL, hSlot, slI_fold, ints_has, hq, hpm, hpm']
          exact ⟨st, sp, m, ⟨rfl, rfl, rfl⟩, hf, by omega, by omega, by omega, by omega⟩
        · obtain ⟨hlt, hge⟩ := List.getElem?_eq_some_iff.1 ha
          rw [hn] at hat
          have h0' : ¬ ((n : Int) < 0) := by omega
          have hm : mv2 s j sp p = (decide ((n : Int) ∈ sp) || a.Stop || a.Version == j.Version) := by simp [mv2, hn, hat, h0']
          rw [hm, hn, hat] at hf
          simp [-List.any_eq_true, -List.any_eq_false, updV, den, U.den, B.den, upd, condB, toL_list, toL_agg, toL_tup, toL_ptr, toL_fn, toI_int, toB_bool, AStore.toL, AStore.fold, ANode.toL, AAlc.toL, AJob.toL, AGrp.toL, AEvl.toL, ARes.toL, ARes.eta, encL_toL, slotE_toL, hSlot, slI_fold, ints_has, hn, hpm, hpm', hw, hlt, hge, AAlc.toL, h0', ints_len, snoc_ints, cons_ints]
          refine ⟨fun hc => ?_, fun h1 h2 h3 => ?_⟩
          · rw [if_pos (by simpa using hc)] at hf
            exact ⟨st, sp, m, ⟨rfl, rfl, rfl⟩, hf, by omega, by omega, by omega, by omega⟩
          · rw [if_neg (by simp [h1, h2, h3])] at hf
            exact ⟨⟨by omega, by omega⟩, ⟨by omega, by omega⟩, st ++ [a.ID], (n : Int) :: sp, m + 1, ⟨rfl, rfl, rfl⟩, hf, by simp; omega, by simp; omega, by omega, by omega⟩
    · rintro xs hxs ⟨st, sp, m, rfl, hf, _⟩
      rw [List.length_map, List.drop_length, rollF] at hf
      simp [-List.any_eq_true, -List.any_eq_false, updV, den, U.den, B.den, upd, condB, toL_list, toL_agg, toL_tup, toL_ptr, toL_fn, toI_int, toB_bool, AStore.toL, AStore.fold, ANode.toL, AAlc.toL, AJob.toL, AGrp.toL, AEvl.toL, ARes.toL, ARes.eta, encL_toL, hf]
end Go.Proofs.Ytippnelhkdjknaa
