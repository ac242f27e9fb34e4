/-
  What each function of this seat computes, and that it keeps to it (N).
-/
import Derived.Test.YtippnelhkdjknaaCJ
set_option linter.unusedSimpArgs false
set_option linter.unusedVariables false
namespace Go.Proofs.Ytippnelhkdjknaa
open Go Go.Eng Go.Proofs

theorem find_of_map {α : Type} {p : α → Bool} : ∀ {l : List α} {n : Nat} {x : α}, l[n]? = some x → p x = true → (∀ (m : Nat) y, m < n → l[m]? = some y → p y = false) → l.find? p = some x
  | [], n, x, h, _, _ => by simp at h
  | y :: r, 0, x, h, hp, _ => by
    simp at h; subst h
    simp [List.find?_cons, hp]
  | y :: r, n + 1, x, h, hp, hb => by
    have h0 := hb 0 y (by omega) rfl
    simp only [List.find?_cons, h0]
    exact find_of_map (n := n) (by simpa using h) hp (fun m z hm hz => hb (m + 1) z (by omega) (by simpa using hz))
/-- The first that fits, where it is written over with the same key. -/
theorem find_set {α : Type} {p : α → Bool} : ∀ {l : List α} {n : Nat} {x y : α}, l[n]? = some x → l.find? p = some x → (∀ (m : Nat) z, m < n → l[m]? = some z → p z = false) → p y = true → (l.set n y).find? p = some y
  | [], n, x, y, h, _, _, _ => by simp at h
  | z :: r, 0, x, y, h, hf, _, hy => by simp [List.find?_cons, hy]
  | z :: r, n + 1, x, y, h, hf, hb, hy => by
    have h0 := hb 0 z (by omega) rfl
    simp only [List.set_cons_succ, List.find?_cons, h0]
    simp only [List.find?_cons, h0] at hf
    exact find_set (n := n) (by simpa using h) hf (fun m w hm hw => hb (m + 1) w (by omega) (by simpa using hw)) hy
theorem slotsL_stop (s : AStore) (j : AJob) : slotsL s { j with Stopped := true } = [] := by simp [slotsL]
/-- What a job that is stopped stops. -/
def runs (job : Int) (a : AAlc) : Bool := a.Job == job && decide (a.State < 3) && !a.Stop
theorem stopF_all (s : AStore) (j : AJob) : ∀ (l : List AAlc) (i : Int) (st sp : List Int), (stopF s j [] l i st sp).1 = st ++ (l.filter (runs j.ID)).map AAlc.ID
  | [], i, st, sp => by simp [stopF]
  | a :: r, i, st, sp => by
    unfold stopF
    by_cases hr : runs j.ID a = true
    · have hs : skipB j a = false := by
        simp [runs] at hr; simp [skipB, over, hr]
      have hb : stopB s j [] a = true := by simp [stopB]
      rw [hs, hb]
      simp only [Bool.false_eq_true, if_false, if_true]
      rw [stopF_all s j r (i + 1) (st ++ [a.ID]) (i :: sp)]
      simp [List.filter_cons, hr]
    · have hs : skipB j a = true := by
        simp [runs] at hr
        by_cases h1 : a.Job = j.ID
        · by_cases h2 : a.State < 3
          · simp [skipB, hr h1 h2]
          · simp [skipB, over]; omega
        · simp [skipB, h1]
      rw [hs]
      simp only [if_true]
      rw [stopF_all s j r (i + 1) st sp]
      simp [List.filter_cons, hr]
theorem diffL_stopped {s : AStore} {job : Int} {j : AJob} (h : s.Jobs.find? (fun x => x.ID == job) = some j) (hst : j.Stopped = true) : diffL s job = ((s.Allocs.filter (runs job)).map AAlc.ID, []) := by
  have hid : j.ID = job := by simpa using List.find?_some h
  have hL : slotsL s j = [] := by simp [slotsL, hst]
  have h1 : fillL s j = [] := by simp [fillL, hL]
  have h2 : (stopsOf s j).1 = (s.Allocs.filter (runs job)).map AAlc.ID := by
    unfold stopsOf; rw [hL, stopF_all, hid]; simp
  have h3 : stopL s j = (s.Allocs.filter (runs job)).map AAlc.ID := by
    unfold stopL
    split
    · unfold rollL; rw [hL, rollF]; exact h2
    · exact h2
  simp [diffL, h, h1, h3]
/-- What is on a node that is drained is among what is stopped. -/
theorem stopF_mono (s : AStore) (j : AJob) (L : List (Int × Int)) : ∀ (l : List AAlc) (i : Int) (st sp : List Int), ∀ x ∈ st, x ∈ (stopF s j L l i st sp).1
  | [], i, st, sp, x, hx => by simpa [stopF] using hx
  | a :: r, i, st, sp, x, hx => by
    unfold stopF
    split
    · exact stopF_mono s j L r _ _ _ x hx
    · split
      · exact stopF_mono s j L r _ _ _ x (List.mem_append_left _ hx)
      · exact stopF_mono s j L r _ _ _ x hx
theorem stopF_mem (s : AStore) (j : AJob) (L : List (Int × Int)) : ∀ (l : List AAlc) (i : Int) (st sp : List Int), ∀ a ∈ l, skipB j a = false → stopB s j L a = true → a.ID ∈ (stopF s j L l i st sp).1
  | [], i, st, sp, a, ha, _, _ => by cases ha
  | b :: r, i, st, sp, a, ha, h1, h2 => by
    unfold stopF
    rcases List.mem_cons.1 ha with rfl | ha
    · rw [h1, h2]
      simp only [Bool.false_eq_true, if_false, if_true]
      exact stopF_mono s j L r _ _ _ _ (by simp)
    · split
      · exact stopF_mem s j L r _ _ _ a ha h1 h2
      · split
        · exact stopF_mem s j L r _ _ _ a ha h1 h2
        · exact stopF_mem s j L r _ _ _ a ha h1 h2
theorem rollF_mono (s : AStore) (j : AJob) : ∀ (l : List (Int × Int)) (st sp : List Int) (m : Int), ∀ x ∈ st, x ∈ rollF s j l st sp m
  | [], st, sp, m, x, hx => by simpa [rollF] using hx
  | p :: r, st, sp, m, x, hx => by
    unfold rollF
    split
    · exact hx
    · split
      · exact rollF_mono s j r _ _ _ x hx
      · exact rollF_mono s j r _ _ _ x (List.mem_append_left _ hx)
theorem stopL_mem {s : AStore} {j : AJob} {a : AAlc} (ha : a ∈ s.Allocs) (h1 : skipB j a = false) (h2 : stopB s j (slotsL s j) a = true) : a.ID ∈ stopL s j := by
  have h := stopF_mem s j (slotsL s j) s.Allocs 0 [] [] a ha h1 h2
  unfold stopL
  split
  · exact rollF_mono s j _ _ _ _ _ h
  · exact h
theorem diffL_none {s : AStore} {job : Int} (h : jobI s job < 0) : diffL s job = ([], []) := by
  have : s.Jobs.find? (fun x => x.ID == job) = none := by
    rcases find0 (fun x : AJob => x.ID == job) s.Jobs with ⟨_, h2⟩ | ⟨n, x, h1, _, _⟩
    · exact h2
    · have h1' : jobI s job = n := h1
      omega
  simp [diffL, this]
theorem diffL_drain {s : AStore} {job node : Int} (hj : 0 ≤ jobI s job) (hd : drainB s node = true) {a : AAlc} (ha : a ∈ s.Allocs) (h1 : a.Job = job) (h2 : a.Node = node) (h3 : a.State < 3) (h4 : a.Stop = false) : a.ID ∈ (diffL s job).1 := by
  rcases find0 (fun x : AJob => x.ID == job) s.Jobs with ⟨h, _⟩ | ⟨n, j, _, _, hf⟩
  · have h' : jobI s job = -1 := h
    omega
  · have hid : j.ID = job := by simpa using List.find?_some hf
    have : diffL s job = (stopL s j, fillL s j) := by simp [diffL, hf]
    rw [this]
    refine stopL_mem ha ?_ ?_
    · simp [skipB, over, hid, h1, h4]; omega
    · simp [stopB, h2, hd]
/-- What a job that has all it wants wants: nothing. -/
def newB (job : Int) (j : AJob) (a : AAlc) : Prop := a.Job = job ∧ a.Version = j.Version ∧ a.Node = -5 ∧ a.State = 2 ∧ a.Stop = false
def withA (s : AStore) (l : List AAlc) : AStore := { s with Allocs := l }
theorem stopF_none (s : AStore) (j : AJob) (L : List (Int × Int)) : ∀ (l : List AAlc) (i : Int) (st sp : List Int), (∀ a ∈ l, skipB j a = true ∨ stopB s j L a = false) → stopF s j L l i st sp = (st, sp)
  | [], i, st, sp, _ => by simp [stopF]
  | a :: r, i, st, sp, h => by
    have hr := stopF_none s j L r (i + 1) st sp (fun x hx => h x (by simp [hx]))
    unfold stopF
    by_cases h1 : skipB j a = true
    · rw [if_pos h1]; exact hr
    · have h2 : stopB s j L a = false := (h a (by simp)).resolve_left h1
      rw [if_neg h1, h2]
      simpa using hr
theorem rollF_skip (s : AStore) (j : AJob) : ∀ (l : List (Int × Int)) (st sp : List Int) (m : Int), (∀ p ∈ l, mv2 s j sp p = true) → rollF s j l st sp m = st
  | [], st, sp, m, _ => by simp [rollF]
  | p :: r, st, sp, m, h => by
    have hr := rollF_skip s j r st sp m (fun x hx => h x (by simp [hx]))
    have hp := h p (by simp)
    unfold rollF
    split
    · rfl
    · first | exact hr | (rw [hp]; simpa using hr)
theorem slotsF_nodes {s t : AStore} (h : t.Nodes = s.Nodes) (j : AJob) : ∀ (l : List AGrp) (g : Int), slotsF t j l g = slotsF s j l g
  | [], g => by simp [slotsF]
  | x :: r, g => by simp [slotsF, idxL, h, slotsF_nodes h j r (g + 1)]
theorem slotsL_nodes {s t : AStore} (h : t.Nodes = s.Nodes) (j : AJob) : slotsL t j = slotsL s j := by simp [slotsL, slotsF_nodes h j]
theorem quiet {s : AStore} {job : Int} {j : AJob} {F N : List AAlc} (hj : s.Jobs.find? (fun x => x.ID == job) = some j) (hF : ∀ a ∈ F, a.Job ≠ job) (hN : ∀ a ∈ N, newB job j a) (hL : N.map (fun a => (a.Group, a.Index)) = slotsL s j) (hn : nodeI s (-5) < 0) :
    diffL (withA s (F ++ N)) job = ([], []) := by
  have hid : j.ID = job := by simpa using List.find?_some hj
  have hsl : slotsL (withA s (F ++ N)) j = slotsL s j := slotsL_nodes (s := s) (t := withA s (F ++ N)) rfl j
  have hnt : nodeI (withA s (F ++ N)) (-5) = nodeI s (-5) := rfl
  have hslI : ∀ p ∈ slotsL s j, 0 ≤ slI (withA s (F ++ N)) j p ∧ (atI (withA s (F ++ N)) (slI (withA s (F ++ N)) j p)).Version = j.Version := by
    intro p hp
    rw [← hL] at hp
    obtain ⟨a, ha, hpa⟩ := List.mem_map.1 hp
    subst hpa
    have hmatch : isSlot j.ID a.Group a.Index a = true := by
      obtain ⟨g1, _, _, g4, _⟩ := hN a ha
      simp [isSlot, over, g1, g4, hid]
    rcases slI_at (withA s (F ++ N)) j (a.Group, a.Index) with h | ⟨n, b, h1, h2, h3, h4⟩
    · rcases findF_cases (isSlot j.ID a.Group a.Index) (F ++ N) 0 with ⟨_, k2⟩ | ⟨k, x, k1, _⟩
      · rw [k2 a (by simp [ha])] at hmatch; cases hmatch
      · have h' : findF (isSlot j.ID a.Group a.Index) (F ++ N) 0 = -1 := h
        rw [k1] at h'; omega
    · have hb : b ∈ F ++ N := List.mem_of_getElem? h2
      have hbj : b.Job = job := by
        simp [isSlot] at h3; rw [h3.1.1.1, hid]
      have hbN : b ∈ N := by
        rcases List.mem_append.1 hb with hb | hb
        · exact absurd hbj (hF b hb)
        · exact hb
      rw [h4]
      exact ⟨by rw [h1]; omega, (hN b hbN).2.1⟩
  have hstops : stopsOf (withA s (F ++ N)) j = ([], []) := by
    unfold stopsOf
    refine stopF_none _ j _ _ 0 [] [] ?_
    intro a ha
    rw [hsl]
    rcases List.mem_append.1 (show a ∈ F ++ N from ha) with ha | ha
    · exact .inl (by simp [skipB, hid, hF a ha])
    · obtain ⟨g1, g2, g3, g4, g5⟩ := hN a ha
      have hmem : (a.Group, a.Index) ∈ slotsL s j := by rw [← hL]; exact List.mem_map.2 ⟨a, ha, rfl⟩
      refine .inr ?_
      simp [stopB, hmem, drainB, g2, g3, hnt]; omega
  have hstop : stopL (withA s (F ++ N)) j = [] := by
    unfold stopL
    rw [hstops]
    split
    · unfold rollL
      refine rollF_skip _ j _ [] [] _ ?_
      intro p hp
      rw [hsl] at hp
      simp [mv2, (hslI p hp).2]
    · rfl
  have hfill : fillL (withA s (F ++ N)) j = [] := by
    unfold fillL
    rw [hsl, List.filter_eq_nil_iff]
    intro p hp
    have := (hslI p hp).1
    simp [fillB]; omega
  have hj' : (withA s (F ++ N)).Jobs.find? (fun x => x.ID == job) = some j := hj
  simp [diffL, hj', hstop, hfill]
theorem slots_wt {s : AStore} (hw : s.enc.wt ≤ 1048576) {j : AJob} (hj : j ∈ s.Jobs) : (slotsL s j).length ≤ 1099515822080 := by
  obtain ⟨_, w2, _, w4⟩ := wt_store hw
  have h := slotsL_le s j
  have h4 : j.Groups.length * (4 + s.Nodes.length) ≤ 1048576 * (4 + 1048576) := Nat.mul_le_mul (w4 j hj) (by omega)
  omega
theorem room_slots {s : AStore} (hw : s.enc.wt ≤ 1048576) {j : AJob} (hj : j ∈ s.Jobs) : room13 s j := by
  have := slots_wt hw hj
  unfold room13; omega

theorem hCopy (s : AStore) : phi 16 [s.enc] = s.enc := rfl
theorem hRefJob (s : AStore) (id : Int) : phi 11 [s.enc, .int .i64 id] = .int .i64 (jobI s id) := (hFinds s id).2.1
theorem hRefNode (s : AStore) (id : Int) : phi 13 [s.enc, .int .i64 id] = .int .i64 (nodeI s id) := (hFinds s id).2.2.2.1
def stopJ (j : AJob) : AJob := { j with Stopped := true }
def stopAtS (s : AStore) (n : Nat) (j : AJob) : AStore := { s with Jobs := s.Jobs.set n (stopJ j) }
theorem setL_enc {α : Type} (f : α → D) (l : List α) (n : Nat) (y : α) (hn : n < l.length) : D.list (List.take n (l.map f) ++ f y :: List.drop (n + 1) (l.map f)) = encL f (l.set n y) := by
  unfold encL
  rw [List.map_set, List.set_eq_take_append_cons_drop, if_pos (by simpa using hn)]
theorem stop_fold (s : AStore) (n : Nat) (j : AJob) (hn : n < s.Jobs.length) : D.agg [.int .i64 s.Index, .int .i64 s.Next, D.list (List.take n (s.Jobs.map AJob.enc) ++ D.agg [.int .i64 j.ID, .int .i64 j.Kind, .int .i64 j.Priority, .int .i64 j.Parallel, encL AGrp.enc j.Groups, .int .i64 j.Version, .bool true] :: List.drop (n + 1) (s.Jobs.map AJob.enc)),
    encL AJob.enc s.Stable, encL ANode.enc s.Nodes, encL AAlc.enc s.Allocs, encL AEvl.enc s.Evals, encL AEvl.enc s.Deploys, encL ASeen.enc s.Seen] = (stopAtS s n j).enc := by
  have h := setL_enc AJob.enc s.Jobs n (stopJ j) hn
  show D.agg [_, _, D.list (List.take n (s.Jobs.map AJob.enc) ++ (stopJ j).enc :: List.drop (n + 1) (s.Jobs.map AJob.enc)), _, _, _, _, _, _] = _
  rw [h]; rfl
theorem find0_before {α : Type} {p : α → Bool} {l : List α} {n : Nat} (h : findF p l 0 = n) : ∀ (m : Nat) z, m < n → l[m]? = some z → p z = false := by
  rcases findF_cases p l 0 with ⟨h1, _⟩ | ⟨k, x, h1, _, _, h4⟩
  · rw [h1] at h; omega
  · rw [h1] at h
    have hkn : k = n := by omega
    subst hkn
    intro m z hm hz
    exact h4 z (List.mem_of_getElem? (by rw [List.getElem?_take, if_pos hm]; exact hz))
theorem filter_at {α : Type} {f : α → Bool} {l : List α} {n : Nat} {x : α} (h : l[n]? = some x) (hf : f x = true) : (l.filter f)[((l.take n).filter f).length]? = some x := by
  obtain ⟨hlt, hx⟩ := List.getElem?_eq_some_iff.1 h
  have hl : l = l.take n ++ x :: l.drop (n + 1) := by
    conv => lhs; rw [← List.take_append_drop n l, List.drop_eq_getElem_cons hlt, hx]
  have h2 : l.filter f = (l.take n).filter f ++ x :: (l.drop (n + 1)).filter f := by
    conv => lhs; rw [hl]
    rw [List.filter_append, List.filter_cons, if_pos hf]
  rw [h2, List.getElem?_append_right (Nat.le_refl _)]
  simp
theorem hRefAlloc (s : AStore) (id : Int) : phi 14 [s.enc, .int .i64 id] = .int .i64 (allocI s id) := (hFinds s id).2.2.2.2
theorem hSlots12 (s : AStore) (j : AJob) : phi 12 [s.enc, j.enc] = encL slotE (slotsL s j) := by
  show D.list ((slotsL (AStore.dec s.enc) (AJob.dec j.enc)).map slotE) = _
  rw [AStore.dec_enc, AJob.dec_enc]; rfl
theorem hSlotsPre (s : AStore) (j : AJob) : pre 12 [s.enc, j.enc] = room13 s j := by
  show room13 (AStore.dec s.enc) (AJob.dec j.enc) = _
  rw [AStore.dec_enc, AJob.dec_enc]
theorem snoc_encL {α : Type} (f : α → D) (l : List α) (a : α) : D.list (l.map f ++ [f a]) = encL f (l ++ [a]) := by simp [encL]
def newA (id job ver g i : Int) : AAlc := ⟨id, job, ver, g, i, -5, 0, 0, 0, false, 2⟩
theorem newA_fold (id job ver g i : Int) : D.agg [.int .i64 id, .int .i64 job, .int .i64 ver, .int .i64 g, .int .i64 i, .int .i64 (-5), .int .i64 0, .int .i64 0, .int .i64 0, .bool false, .int .i64 2] = (newA id job ver g i).enc := rfl
theorem with_fold (s : AStore) (l : List AAlc) : D.agg [.int .i64 s.Index, .int .i64 s.Next, encL AJob.enc s.Jobs, encL AJob.enc s.Stable, encL ANode.enc s.Nodes, encL AAlc.enc l, encL AEvl.enc s.Evals, encL AEvl.enc s.Deploys, encL ASeen.enc s.Seen] = (withA s l).enc := rfl
theorem c5 : PureFn Try.prog 5 s5 (pre 5) (phi 5) := by
  refine pureFn_auto (given := []) mix con3 Try.func5 (by kernel_rfl) (v := vc5) (by kernel_rfl) ?_
  intro ds h hp
  obtain ⟨_, _, rfl, gs, _, _, rfl, ⟨job, rfl, _⟩, rfl⟩ := h
  obtain ⟨s, rfl, hs⟩ := AStore.cases gs
  have hw : s.enc.wt ≤ 1048576 := by
    have h : wtL [s.enc, .int .i64 job] ≤ 1048576 := hp
    simp only [wtL] at h; omega
  have hR : ∀ l, phi 5 l = .bool true := fun _ => rfl
  simp only [vc5, vh_obl, vh_call, vh_room, vh_branch, vh_loop, vh_again, vh_ret, vh_any, vh_hav, vh_range, implies_true, true_and]
  rcases find0 (fun x : AJob => x.ID == job) s.Jobs with ⟨h1, h2⟩ | ⟨nj, j, h1, hx, h2⟩
  · have h1' : jobI s job = -1 := h1
    simp [-List.any_eq_true, -List.any_eq_false, updV, den, U.den, B.den, upd, condB, toL_list, toL_agg, toL_tup, toL_ptr, toL_fn, toI_int, toB_bool, AStore.toL, AStore.fold, ANode.toL, AAlc.toL, AJob.toL, AGrp.toL, AEvl.toL, ARes.toL, ARes.eta, encL_toL, hRefJob, h1', hR, hLives, hPre2]
  have h1' : jobI s job = nj := h1
  obtain ⟨hlt, hge⟩ := List.getElem?_eq_some_iff.1 hx
  have hn0 : ¬ ((nj : Int) < 0) := by omega
  have hrm := room_slots hw (mem_some hx)
  have hsw := slots_wt hw (mem_some hx)
  obtain ⟨w1, w2, w3, w4⟩ := wt_store hw
  simp [-List.any_eq_true, -List.any_eq_false, updV, den, U.den, B.den, upd, condB, toL_list, toL_agg, toL_tup, toL_ptr, toL_fn, toI_int, toB_bool, AStore.toL, AStore.fold, ANode.toL, AAlc.toL, AJob.toL, AGrp.toL, AEvl.toL, ARes.toL, ARes.eta, encL_toL, AJob.fold, hRefJob, h1', hn0, hCopy, hlt, hge, hR, hPre2, hLives, hSlots12, hSlotsPre, hrm]
  intro hst
  have hal := hs.Allocs.1.1
  have hml : maxLen = 9223372036854775807 := by decide
  refine LoopOk.intro (fun xs => ∃ n : Nat, xs = [encL AAlc.enc ((s.Allocs.take n).filter (fun a => a.Job != job)), .int .i64 n] ∧ n ≤ s.Allocs.length) (FM s.Allocs 1) ⟨0, by simp [encL], Nat.zero_le _⟩ ?_
  rintro xs hxs ⟨n, rfl, hle⟩
  have hfl : ((s.Allocs.take n).filter (fun a => a.Job != job)).length ≤ n := filter_take_le hle
  rcases hz : s.Allocs[n]? with _ | a
  · have hge3 := ge_none hz
    have hn3 : ¬ ((n : Int) < s.Allocs.length) := by omega
    rw [List.take_of_length_le hge3] at hfl ⊢
    have hF : ∀ a ∈ s.Allocs.filter (fun a => a.Job != job), a.Job ≠ job := fun a ha => by simpa using (List.mem_filter.1 ha).2
    generalize s.Allocs.filter (fun a => a.Job != job) = Fl at hfl hF
    simp [-List.any_eq_true, -List.any_eq_false, updV, den, U.den, B.den, upd, condB, toL_list, toL_agg, toL_tup, toL_ptr, toL_fn, toI_int, toB_bool, AStore.toL, AStore.fold, ANode.toL, AAlc.toL, AJob.toL, AGrp.toL, AEvl.toL, ARes.toL, ARes.eta, encL_toL, hn3, hge3]
    refine LoopOk.intro (fun xs => ∃ (k : Nat) (N : List AAlc), xs = [encL AAlc.enc (Fl ++ N), .int .i64 k] ∧ k ≤ (slotsL s j).length ∧ (∀ a ∈ N, newB job j a) ∧ N.map (fun a => (a.Group, a.Index)) = (slotsL s j).take k) (FM (slotsL s j) 1) ⟨0, [], by simp, Nat.zero_le _, by simp, by simp⟩ ?_
    rintro xs hxs ⟨k, N, rfl, hk, hN, hNL⟩
    have hNl : N.length = k := by have := congrArg List.length hNL; simp at this; omega
    rcases hy : (slotsL s j)[k]? with _ | p
    · have hge4 := ge_none hy
      have hn4 : ¬ ((k : Int) < (slotsL s j).length) := by omega
      rw [List.take_of_length_le hge4] at hNL
      simp [-List.any_eq_true, -List.any_eq_false, updV, den, U.den, B.den, upd, condB, toL_list, toL_agg, toL_tup, toL_ptr, toL_fn, toI_int, toB_bool, AStore.toL, AStore.fold, ANode.toL, AAlc.toL, AJob.toL, AGrp.toL, AEvl.toL, ARes.toL, ARes.eta, encL_toL, hn4, hge4]
      refine LoopOk.intro (fun xs => ∃ m : Nat, xs = [.bool false, .int .i64 m] ∧ m ≤ s.Nodes.length ∧ ∀ b ∈ s.Nodes.take m, b.ID ≠ -5) (FM s.Nodes 1) ⟨0, by simp, Nat.zero_le _, by simp⟩ ?_
      rintro xs hxs ⟨m, rfl, hm, hb5⟩
      rcases hb : s.Nodes[m]? with _ | b
      · have hge5 := ge_none hb
        have hn5 : ¬ ((m : Int) < s.Nodes.length) := by omega
        rw [List.take_of_length_le hge5] at hb5
        have hnn : nodeI s (-5) < 0 := by
          rcases nodeI_at s (-5) with h | ⟨q, x, _, hq, _⟩
          · omega
          · rcases find0 (fun x : ANode => x.ID == -5) s.Nodes with ⟨h, _⟩ | ⟨q, x, h3, h4, h5⟩
            · have : nodeI s (-5) = -1 := h
              omega
            · exact absurd (by simpa using List.find?_some h5) (hb5 x (mem_some h4))
        have hq := quiet h2 hF hN hNL hnn
        have hrt : roomD (withA s (Fl ++ N)) := by
          refine room_of (N := 1048576) (by omega) ?_ w2 w4
          show (Fl ++ N).length ≤ _
          rw [List.length_append]; omega
        simp [-List.any_eq_true, -List.any_eq_false, updV, den, U.den, B.den, upd, condB, toL_list, toL_agg, toL_tup, toL_ptr, toL_fn, toI_int, toB_bool, AStore.toL, AStore.fold, ANode.toL, AAlc.toL, AJob.toL, AGrp.toL, AEvl.toL, ARes.toL, ARes.eta, encL_toL, hn5, hge5, with_fold, hDiff, hDiffPre, hrt.j, hq, hLives, hPre2]
        rfl
      · obtain ⟨hlt5, hge5⟩ := List.getElem?_eq_some_iff.1 hb
        have hw5 := next64 hs.Nodes.1.1 hlt5
        simp [-List.any_eq_true, -List.any_eq_false, updV, den, U.den, B.den, upd, condB, toL_list, toL_agg, toL_tup, toL_ptr, toL_fn, toI_int, toB_bool, AStore.toL, AStore.fold, ANode.toL, AAlc.toL, AJob.toL, AGrp.toL, AEvl.toL, ARes.toL, ARes.eta, encL_toL, ANode.toL, hlt5, hge5, hw5, Nat.not_le.2 hlt5, hLives, hPre2]
        intro hne
        refine ⟨⟨m + 1, by simp, hlt5, ?_⟩, by show s.Nodes.length - ((m : Int) + 1).toNat < s.Nodes.length - (m : Int).toNat; omega⟩
        rw [List.take_add_one, hb]
        intro y hy
        rcases List.mem_append.1 hy with hy | hy
        · exact hb5 y hy
        · simp at hy; subst hy; exact hne
    · obtain ⟨hlt4, hge4⟩ := List.getElem?_eq_some_iff.1 hy
      have hw4 : IntKind.i64.wrap ((k : Int) + 1) = (k : Int) + 1 := wrap64 (by omega) (by omega)
      simp [-List.any_eq_true, -List.any_eq_false, updV, den, U.den, B.den, upd, condB, toL_list, toL_agg, toL_tup, toL_ptr, toL_fn, toI_int, toB_bool, AStore.toL, AStore.fold, ANode.toL, AAlc.toL, AJob.toL, AGrp.toL, AEvl.toL, ARes.toL, ARes.eta, encL_toL, AJob.toL, slotE_toL, hlt4, hge4, hw4, Nat.not_le.2 hlt4, hlt, hge, newA_fold, snoc_encL]
      refine ⟨⟨by omega, by omega⟩, ⟨k + 1, N ++ [newA (IntKind.i64.wrap (1000 + k)) job j.Version p.1 p.2], ⟨by simp [encL], by simp⟩, hlt4, ?_, ?_⟩, by show (slotsL s j).length - ((k : Int) + 1).toNat < (slotsL s j).length - (k : Int).toNat; omega⟩
      · intro a ha
        rcases List.mem_append.1 ha with ha | ha
        · exact hN a ha
        · obtain rfl := List.mem_singleton.1 ha
          exact ⟨rfl, rfl, rfl, rfl, rfl⟩
      · rw [List.map_append, hNL, List.take_add_one, hy]; rfl
  · obtain ⟨hlt3, hge3⟩ := List.getElem?_eq_some_iff.1 hz
    have hw3 := next64 hal hlt3
    have hft := filter_take (f := fun a : AAlc => a.Job != job) hz
    have hm : s.Allocs.length - (((n + 1 : Nat) : Int)).toNat < s.Allocs.length - ((n : Nat) : Int).toNat := by omega
    simp [-List.any_eq_true, -List.any_eq_false, updV, den, U.den, B.den, upd, condB, toL_list, toL_agg, toL_tup, toL_ptr, toL_fn, toI_int, toB_bool, AStore.toL, AStore.fold, ANode.toL, AAlc.toL, AJob.toL, AGrp.toL, AEvl.toL, ARes.toL, ARes.eta, encL_toL, AAlc.toL, AAlc.fold, hlt3, hge3, hw3, Nat.not_le.2 hlt3, snoc_encL]
    refine ⟨fun g1 => ?_, fun g1 => ?_⟩
    · rw [if_pos (by simpa using g1)] at hft
      exact ⟨⟨by omega, by omega⟩, ⟨n + 1, ⟨by rw [hft], by simp⟩, hlt3⟩, hm⟩
    · rw [if_neg (by simp [g1]), List.append_nil] at hft
      exact ⟨⟨n + 1, ⟨by rw [hft], by simp⟩, hlt3⟩, hm⟩
theorem con5 : Con Try.prog pre phi tb5 := con_cons c5 con3

end Go.Proofs.Ytippnelhkdjknaa
