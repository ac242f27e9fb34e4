/-
  What each function of this seat computes, and that it keeps to it (J).
-/
import Derived.Test.YtippnelhkdjknaaCH
set_option linter.unusedSimpArgs false
set_option linter.unusedVariables false
namespace Go.Proofs.Ytippnelhkdjknaa
open Go Go.Eng Go.Proofs

theorem mem_wt : ∀ {l : List D} {x : D}, x ∈ l → x.wt ≤ wtL l
  | y :: l, x, h => by
    simp only [wtL]
    rcases List.mem_cons.1 h with rfl | h
    · omega
    · have := mem_wt h; omega
theorem idxL_le (s : AStore) (j : AJob) (x : AGrp) : (idxL s j x).length ≤ 4 + s.Nodes.length := by
  unfold idxL
  split
  · have := nodesF_length s.Nodes []; simp at this; omega
  · rw [rangeI_length]; have := cntG_le x; omega
theorem slotsF_le (s : AStore) (j : AJob) : ∀ (l : List AGrp) (g : Int), (slotsF s j l g).length ≤ l.length * (4 + s.Nodes.length)
  | [], _ => by simp [slotsF]
  | x :: r, g => by
    have h1 := idxL_le s j x
    have h2 := slotsF_le s j r (g + 1)
    simp only [slotsF, List.length_append, List.length_map, List.length_cons]
    rw [Nat.add_mul]; omega
theorem slotsL_le (s : AStore) (j : AJob) : (slotsL s j).length ≤ j.Groups.length * (4 + s.Nodes.length) := by
  unfold slotsL
  split
  · simp
  · exact slotsF_le s j _ _
theorem wt_store {s : AStore} {N : Nat} (h : s.enc.wt ≤ N) : s.Allocs.length ≤ N ∧ s.Nodes.length ≤ N ∧ s.Jobs.length ≤ N ∧ ∀ j ∈ s.Jobs, j.Groups.length ≤ N := by
  simp only [AStore.enc, encL, D.wt, wtL, List.length_map] at h
  refine ⟨by omega, by omega, by omega, fun j hj => ?_⟩
  have h1 : j.enc.wt ≤ wtL (s.Jobs.map AJob.enc) := mem_wt (List.mem_map.2 ⟨j, hj, rfl⟩)
  simp only [AJob.enc, encL, D.wt, wtL, List.length_map] at h1
  omega
theorem room_of {s : AStore} {N : Nat} (hN : N ≤ 1100000) (h1 : s.Allocs.length ≤ 3 * N * N + N) (h2 : s.Nodes.length ≤ N) (h3 : ∀ j ∈ s.Jobs, j.Groups.length ≤ N) : roomD s := by
  intro j hj
  have h := slotsL_le s j
  have h4 : j.Groups.length * (4 + s.Nodes.length) ≤ 1100000 * (4 + 1100000) := Nat.mul_le_mul (Nat.le_trans (h3 j hj) hN) (by omega)
  have h5 : 3 * N * N ≤ 3 * 1100000 * 1100000 := Nat.mul_le_mul (by omega) hN
  omega
theorem room_wt {s : AStore} {N : Nat} (hN : N ≤ 1100000) (h : s.enc.wt ≤ N) : roomD s := by
  obtain ⟨h1, h2, _, h4⟩ := wt_store h
  exact room_of hN (by omega) h2 h4
theorem nodesF_nodup : ∀ (l : List ANode) (o : List Int), o.Nodup → (nodesF l o).Nodup
  | [], o, h => h
  | n :: r, o, h => by
    unfold nodesF
    refine nodesF_nodup r _ ?_
    split
    · rename_i hc
      simp only [Bool.and_eq_true, Bool.not_eq_true', decide_eq_false_iff_not] at hc
      rw [List.nodup_append]
      refine ⟨h, by simp, fun a ha b hb e => ?_⟩
      simp only [List.mem_singleton] at hb
      subst hb e
      exact hc.2 ha
    · exact h
theorem rangeI_nodup (k : Nat) : (rangeI k).Nodup := by
  unfold rangeI
  exact List.Pairwise.map _ (fun a b h e => h (by exact_mod_cast e)) List.nodup_range
theorem idxL_nodup (s : AStore) (j : AJob) (x : AGrp) : (idxL s j x).Nodup := by
  unfold idxL
  split
  · exact nodesF_nodup _ _ List.nodup_nil
  · exact rangeI_nodup _
theorem slotsF_ge (s : AStore) (j : AJob) : ∀ (l : List AGrp) (g : Int), ∀ p ∈ slotsF s j l g, g ≤ p.1
  | [], g, p, h => by simp [slotsF] at h
  | x :: r, g, p, h => by
    simp only [slotsF, List.mem_append, List.mem_map] at h
    rcases h with ⟨i, _, rfl⟩ | h
    · exact Int.le_refl _
    · have := slotsF_ge s j r (g + 1) p h; omega
theorem slotsF_nodup (s : AStore) (j : AJob) : ∀ (l : List AGrp) (g : Int), (slotsF s j l g).Nodup
  | [], g => by simp [slotsF]
  | x :: r, g => by
    simp only [slotsF]
    rw [List.nodup_append]
    refine ⟨List.Pairwise.map _ (fun a b h e => h (by simpa using e)) (idxL_nodup s j x), slotsF_nodup s j r (g + 1), fun a ha b hb e => ?_⟩
    obtain ⟨i, _, rfl⟩ := List.mem_map.1 ha
    have := slotsF_ge s j r (g + 1) b hb
    subst e
    simp at this
    omega
theorem slotsL_nodup (s : AStore) (j : AJob) : (slotsL s j).Nodup := by
  unfold slotsL
  split
  · simp
  · exact slotsF_nodup s j _ _
/-- An allocation that may be told to stop. -/
def Stoppable (s : AStore) (j : AJob) (x : Int) : Prop := ∃ a ∈ s.Allocs, a.ID = x ∧ a.Job = j.ID ∧ over a = false ∧ a.Stop = false
theorem stopF_ok (s : AStore) (j : AJob) (L : List (Int × Int)) : ∀ (l : List AAlc) (i : Int) (st sp : List Int), (∀ a ∈ l, a ∈ s.Allocs) → (∀ x ∈ st, Stoppable s j x) → ∀ x ∈ (stopF s j L l i st sp).1, Stoppable s j x
  | [], i, st, sp, _, h => h
  | a :: r, i, st, sp, hl, h => by
    have hr : ∀ a ∈ r, a ∈ s.Allocs := fun x hx => hl x (by simp [hx])
    unfold stopF
    split
    · exact stopF_ok s j L r _ _ _ hr h
    · rename_i hsk
      split
      · refine stopF_ok s j L r _ _ _ hr (fun x hx => ?_)
        rcases List.mem_append.1 hx with hx | hx
        · exact h x hx
        · simp only [List.mem_singleton] at hx
          subst hx
          simp [skipB] at hsk
          exact ⟨a, hl a (by simp), rfl, hsk.1.1, hsk.1.2, hsk.2⟩
      · exact stopF_ok s j L r _ _ _ hr h
theorem rollF_ok (s : AStore) (j : AJob) : ∀ (l : List (Int × Int)) (st sp : List Int) (m : Int), (∀ x ∈ st, Stoppable s j x) → ∀ x ∈ rollF s j l st sp m, Stoppable s j x
  | [], st, sp, m, h => h
  | p :: r, st, sp, m, h => by
    unfold rollF
    split
    · exact h
    · split
      · exact rollF_ok s j r _ _ _ h
      · rename_i hm
        refine rollF_ok s j r _ _ _ (fun x hx => ?_)
        rcases List.mem_append.1 hx with hx | hx
        · exact h x hx
        · simp only [List.mem_singleton] at hx
          subst hx
          rcases slI_at s j p with hq | ⟨n, a, hn, ha, his, hat⟩
          · simp [mv2, hq] at hm
          · rw [hat]
            simp [mv2, hn] at hm
            rw [← hn, hat] at hm
            simp [isSlot] at his
            exact ⟨a, List.mem_of_getElem? ha, rfl, his.1.1.1, his.2, hm.1.2⟩
theorem stopL_ok (s : AStore) (j : AJob) : ∀ x ∈ stopL s j, Stoppable s j x := by
  have h := stopF_ok s j (slotsL s j) s.Allocs 0 [] [] (fun _ h => h) (by simp)
  unfold stopL
  split
  · exact rollF_ok s j _ _ _ _ h
  · exact h
theorem diffL_stop (s : AStore) (job : Int) : ∀ x ∈ (diffL s job).1, ∃ a ∈ s.Allocs, a.ID = x ∧ a.Job = job ∧ over a = false ∧ a.Stop = false := by
  unfold diffL
  split
  · simp
  · rename_i j hj
    have hid := List.find?_some hj
    simp only [beq_iff_eq] at hid
    intro x hx
    rw [← hid]
    exact stopL_ok s j x hx
theorem diffL_nodup (s : AStore) (job : Int) : (diffL s job).2.Nodup := by
  unfold diffL
  split
  · simp
  · exact (slotsL_nodup s _).filter _
theorem diffL_free (s : AStore) (job : Int) : ∀ p ∈ (diffL s job).2, slotI s job p.1 p.2 < 0 := by
  unfold diffL
  split
  · simp
  · rename_i j hj
    have hid := List.find?_some hj
    simp only [beq_iff_eq] at hid
    intro p hp
    have := (List.mem_filter.1 hp).2
    simp [fillB] at this
    rw [← hid]
    exact this.1
theorem stopF_len (s : AStore) (j : AJob) (L : List (Int × Int)) : ∀ (l : List AAlc) (i : Int) (st sp : List Int), (stopF s j L l i st sp).1.length ≤ st.length + l.length
  | [], i, st, sp => by simp [stopF]
  | a :: r, i, st, sp => by
    unfold stopF
    split
    · have := stopF_len s j L r (i + 1) st sp; simp; omega
    · split
      · have := stopF_len s j L r (i + 1) (st ++ [a.ID]) (i :: sp); simp at this ⊢; omega
      · have := stopF_len s j L r (i + 1) st sp; simp; omega
theorem rollF_len (s : AStore) (j : AJob) : ∀ (l : List (Int × Int)) (st sp : List Int) (m : Int), (rollF s j l st sp m).length ≤ st.length + l.length
  | [], st, sp, m => by simp [rollF]
  | p :: r, st, sp, m => by
    unfold rollF
    split
    · simp
    · split
      · have := rollF_len s j r st sp m; simp; omega
      · have := rollF_len s j r (st ++ [(atI s (slI s j p)).ID]) (slI s j p :: sp) (m + 1); simp at this ⊢; omega
theorem stopL_len (s : AStore) (j : AJob) : (stopL s j).length ≤ s.Allocs.length + (slotsL s j).length := by
  have h := stopF_len s j (slotsL s j) s.Allocs 0 [] []
  simp at h
  unfold stopL
  split
  · have := rollF_len s j (slotsL s j) (stopsOf s j).1 (stopsOf s j).2 ((slotsL s j).countP (mv1 s j (stopsOf s j).2))
    unfold rollL
    unfold stopsOf at this ⊢
    omega
  · unfold stopsOf; omega
theorem diffL_len {s : AStore} (h : roomD s) (job : Int) : (diffL s job).1.length ≤ 8796093022208 ∧ (diffL s job).2.length ≤ 8796093022208 := by
  unfold diffL
  split
  · simp
  · rename_i j hj
    have hr := h j (List.mem_of_find?_eq_some hj)
    have h1 := stopL_len s j
    have h2 : (fillL s j).length ≤ (slotsL s j).length := List.length_filter_le _ _
    exact ⟨by simp only; omega, by simp only; omega⟩
def fnd (x job : Int) (a : AAlc) : Bool := a.ID == x && a.Job == job && decide (a.State < 3) && !a.Stop
theorem any_take {α : Type} {f : α → Bool} {l : List α} {i : Nat} {x : α} (h : l[i]? = some x) : (l.take (i + 1)).any f = ((l.take i).any f || f x) := by
  rw [List.take_add_one, h, List.any_append]; simp

theorem hDiff (s : AStore) (job : Int) : phi 8 [s.enc, .int .i64 job] = .tup [ints (diffL s job).1, encL slotE (diffL s job).2] := by
  show D.tup [ints (diffL (AStore.dec s.enc) job).1, encL slotE (diffL (AStore.dec s.enc) job).2] = _
  rw [AStore.dec_enc]
theorem hDiffPre (s : AStore) (job : Int) : pre 8 [s.enc, .int .i64 job] = roomJ s job := by
  show roomJ (AStore.dec s.enc) job = _
  rw [AStore.dec_enc]
theorem hLives : phi 10 [] = .bool true := rfl
theorem hPre2 (l : List D) : pre 11 l = True ∧ pre 13 l = True ∧ pre 9 l = True ∧ pre 14 l = True ∧ pre 16 l = True ∧ pre 10 l = True := ⟨rfl, rfl, rfl, rfl, rfl, rfl⟩
theorem c3 : PureFn Try.prog 3 s3 (pre 3) (phi 3) := by
  refine pureFn_auto (given := []) mix con10 Try.func3 (by kernel_rfl) (v := vc3) (by kernel_rfl) ?_
  intro ds h hp
  obtain ⟨_, _, rfl, gs, _, _, rfl, ⟨job, rfl, _⟩, rfl⟩ := h
  obtain ⟨s, rfl, hs⟩ := AStore.cases gs
  have hw : s.enc.wt ≤ 1048576 := by
    have h : wtL [s.enc, .int .i64 job] ≤ 1048576 := hp
    simp only [wtL] at h; omega
  have hroom := room_wt (N := 1048576) (by omega) hw
  have hR : ∀ l, phi 3 l = .bool true := fun _ => rfl
  have hst := diffL_stop s job
  have hnd := diffL_nodup s job
  have hfr := diffL_free s job
  simp only [vc3, vh_obl, vh_call, vh_room, vh_branch, vh_loop, vh_again, vh_ret, vh_any, vh_hav, vh_range, implies_true, true_and]
  simp [-List.any_eq_true, -List.any_eq_false, updV, den, U.den, B.den, upd, condB, toL_list, toL_agg, toL_tup, toL_ptr, toL_fn, toI_int, toB_bool, AStore.toL, AStore.fold, ANode.toL, AAlc.toL, AJob.toL, AGrp.toL, AEvl.toL, ARes.toL, ARes.eta, encL_toL, hDiff, hDiffPre, hroom.j, hR]
  have hlen := diffL_len hroom job
  generalize (diffL s job).1 = st at hst hlen
  generalize (diffL s job).2 = fl at hnd hfr hlen
  obtain ⟨hstl, hfll⟩ := hlen
  refine LoopOk.intro (fun xs => ∃ n : Nat, xs = [.bool false, .int .i64 n] ∧ n ≤ fl.length) (fun xs => fl.length - (I (.list xs) 1).toNat) ⟨0, rfl, Nat.zero_le _⟩ ?_
  rintro xs hxs ⟨n, rfl, hle⟩
  rcases hx : fl[n]? with _ | p
  · have hge := ge_none hx
    have hn : ¬ ((n : Int) < fl.length) := by omega
    simp [-List.any_eq_true, -List.any_eq_false, updV, den, U.den, B.den, upd, condB, toL_list, toL_agg, toL_tup, toL_ptr, toL_fn, toI_int, toB_bool, AStore.toL, AStore.fold, ANode.toL, AAlc.toL, AJob.toL, AGrp.toL, AEvl.toL, ARes.toL, ARes.eta, encL_toL, hn, hge]
    refine LoopOk.intro (fun xs => ∃ m : Nat, xs = [.bool false, .int .i64 m] ∧ m ≤ st.length) (fun xs => st.length - (I (.list xs) 1).toNat) ⟨0, rfl, Nat.zero_le _⟩ ?_
    rintro xs hxs ⟨m, rfl, hle2⟩
    rcases hy : st[m]? with _ | x
    · have hge2 := ge_none hy
      have hn2 : ¬ ((m : Int) < st.length) := by omega
      simp [-List.any_eq_true, -List.any_eq_false, updV, den, U.den, B.den, upd, condB, toL_list, toL_agg, toL_tup, toL_ptr, toL_fn, toI_int, toB_bool, AStore.toL, AStore.fold, ANode.toL, AAlc.toL, AJob.toL, AGrp.toL, AEvl.toL, ARes.toL, ARes.eta, encL_toL, ints_len, hn2, hge2, hLives, hPre2]
    · obtain ⟨hlt2, hge2⟩ := List.getElem?_eq_some_iff.1 hy
      have hw2 : IntKind.i64.wrap ((m : Int) + 1) = (m : Int) + 1 := wrap64 (by omega) (by omega)
      simp [-List.any_eq_true, -List.any_eq_false, updV, den, U.den, B.den, upd, condB, toL_list, toL_agg, toL_tup, toL_ptr, toL_fn, toI_int, toB_bool, AStore.toL, AStore.fold, ANode.toL, AAlc.toL, AJob.toL, AGrp.toL, AEvl.toL, ARes.toL, ARes.eta, encL_toL, ints_len, hlt2, Nat.not_le.2 hlt2]
      refine LoopOk.intro (fun xs => ∃ k : Nat, xs = [.bool ((s.Allocs.take k).any (fnd x job)), .int .i64 k] ∧ k ≤ s.Allocs.length) (FM s.Allocs 1) ⟨0, by simp, Nat.zero_le _⟩ ?_
      rintro xs hxs ⟨k, rfl, hk⟩
      rcases hz : s.Allocs[k]? with _ | a
      · have hge3 := ge_none hz
        have hn3 : ¬ ((k : Int) < s.Allocs.length) := by omega
        obtain ⟨a, ha, e1, e2, e3, e4⟩ := hst x (List.mem_of_getElem? hy)
        have hany : s.Allocs.any (fnd x job) = true := List.any_eq_true.2 ⟨a, ha, by
          simp [over] at e3
          simp [fnd, e1, e2, e4]; omega⟩
        rw [List.take_of_length_le hge3, hany]
        simp [-List.any_eq_true, -List.any_eq_false, updV, den, U.den, B.den, upd, condB, toL_list, toL_agg, toL_tup, toL_ptr, toL_fn, toI_int, toB_bool, AStore.toL, AStore.fold, ANode.toL, AAlc.toL, AJob.toL, AGrp.toL, AEvl.toL, ARes.toL, ARes.eta, encL_toL, hn3, hge3, hw2]
        exact ⟨⟨m + 1, by simp, hlt2⟩, by show st.length - ((m : Int) + 1).toNat < st.length - (m : Int).toNat; omega⟩
      · obtain ⟨hlt3, hge3⟩ := List.getElem?_eq_some_iff.1 hz
        have hw3 := next64 hs.Allocs.1.1 hlt3
        simp [-List.any_eq_true, -List.any_eq_false, updV, den, U.den, B.den, upd, condB, toL_list, toL_agg, toL_tup, toL_ptr, toL_fn, toI_int, toB_bool, AStore.toL, AStore.fold, ANode.toL, AAlc.toL, AJob.toL, AGrp.toL, AEvl.toL, ARes.toL, ARes.eta, encL_toL, AAlc.toL, hlt3, hge3, hw3, hlt2, hge2, ints_toL, Nat.not_le.2 hlt3]
        refine ⟨⟨k + 1, ⟨?_, by simp⟩, hlt3⟩, by show s.Allocs.length - ((k : Int) + 1).toNat < s.Allocs.length - (k : Int).toNat; omega⟩
        rw [any_take hz]
        simp [fnd]
  · obtain ⟨hlt, hge⟩ := List.getElem?_eq_some_iff.1 hx
    have hw : IntKind.i64.wrap ((n : Int) + 1) = (n : Int) + 1 := wrap64 (by omega) (by omega)
    have hfp := hfr p (List.mem_of_getElem? hx)
    simp [-List.any_eq_true, -List.any_eq_false, updV, den, U.den, B.den, upd, condB, toL_list, toL_agg, toL_tup, toL_ptr, toL_fn, toI_int, toB_bool, AStore.toL, AStore.fold, ANode.toL, AAlc.toL, AJob.toL, AGrp.toL, AEvl.toL, ARes.toL, ARes.eta, encL_toL, hlt, hge, slotE_toL, hSlotR, hPre2, hfp, Nat.not_le.2 hlt]
    refine LoopOk.intro (fun xs => ∃ k : Nat, xs = [.bool false, .int .i64 k] ∧ k ≤ n) (fun xs => n - (I (.list xs) 1).toNat) ⟨0, rfl, Nat.zero_le _⟩ ?_
    rintro xs hxs ⟨k, rfl, hk⟩
    by_cases hkn : k < n
    · have hltk : k < fl.length := by omega
      obtain ⟨q, hq⟩ : ∃ q, fl[k]? = some q := ⟨_, List.getElem?_eq_getElem hltk⟩
      obtain ⟨_, hqe⟩ := List.getElem?_eq_some_iff.1 hq
      have hwk : IntKind.i64.wrap ((k : Int) + 1) = (k : Int) + 1 := wrap64 (by omega) (by omega)
      have hne : q.1 = p.1 → ¬ q.2 = p.2 := by
        intro h1 h2
        have hqp : q = p := Prod.ext h1 h2
        have := (List.getElem?_inj hltk hnd (j := n)).1 (by rw [hq, hx, hqp])
        omega
      simp [-List.any_eq_true, -List.any_eq_false, updV, den, U.den, B.den, upd, condB, toL_list, toL_agg, toL_tup, toL_ptr, toL_fn, toI_int, toB_bool, AStore.toL, AStore.fold, ANode.toL, AAlc.toL, AJob.toL, AGrp.toL, AEvl.toL, ARes.toL, ARes.eta, encL_toL, hlt, hge, hltk, hqe, slotE_toL, hkn, Nat.not_le.2 hkn, hwk]
      refine ⟨hne, fun _ => ⟨⟨k + 1, by simp, hkn⟩, by show n - ((k : Int) + 1).toNat < n - (k : Int).toNat; omega⟩⟩
    · obtain rfl : k = n := by omega
      simp [-List.any_eq_true, -List.any_eq_false, updV, den, U.den, B.den, upd, condB, toL_list, toL_agg, toL_tup, toL_ptr, toL_fn, toI_int, toB_bool, AStore.toL, AStore.fold, ANode.toL, AAlc.toL, AJob.toL, AGrp.toL, AEvl.toL, ARes.toL, ARes.eta, encL_toL, hw]
      exact ⟨⟨k + 1, by simp, hlt⟩, by show fl.length - ((k : Int) + 1).toNat < fl.length - (k : Int).toNat; omega⟩
theorem con3 : Con Try.prog pre phi tb3 := con_cons c3 con10

end Go.Proofs.Ytippnelhkdjknaa
