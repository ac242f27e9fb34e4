/-
  What each function of this seat computes, and that it keeps to it (U).
-/
import Derived.Test.YtippnelhkdjknaaCT
set_option linter.unusedSimpArgs false
set_option linter.unusedVariables false
namespace Go.Proofs.Ytippnelhkdjknaa
open Go Go.Eng Go.Proofs

def stopA (a : AAlc) : AAlc := { a with Stop := true }
def stopQ (l : List AAlc) (qs : List Nat) : List AAlc := l.mapIdx (fun i a => if i ∈ qs then stopA a else a)
theorem stopQ_get (l : List AAlc) (qs : List Nat) (i : Nat) : (stopQ l qs)[i]? = (l[i]?).map (fun a => if i ∈ qs then stopA a else a) := by
  unfold stopQ; rw [List.getElem?_mapIdx]
theorem stopQ_len (l : List AAlc) (qs : List Nat) : (stopQ l qs).length = l.length := by simp [stopQ]
theorem stopQ_nil (l : List AAlc) : stopQ l [] = l := by
  apply List.ext_getElem?
  intro i
  rw [stopQ_get]
  cases l[i]? <;> simp
theorem stopQ_set {l : List AAlc} {qs : List Nat} {q : Nat} {a : AAlc} (h : (stopQ l qs)[q]? = some a) : (stopQ l qs).set q (stopA a) = stopQ l (qs ++ [q]) := by
  apply List.ext_getElem?
  intro i
  by_cases hi : i = q
  · subst hi
    have hlt := lt_some h
    rw [List.getElem?_set_self hlt, stopQ_get]
    rw [stopQ_get] at h
    cases hl : l[i]? with
    | none => rw [hl] at h; cases h
    | some b =>
      rw [hl] at h
      simp only [Option.map_some, Option.some.injEq] at h
      subst h
      simp
      split <;> rfl
  · rw [List.getElem?_set_ne (Ne.symm hi), stopQ_get, stopQ_get]
    have : (i ∈ qs ++ [q]) ↔ i ∈ qs := by simp [hi]
    simp only [this]
theorem findF_map {p : AAlc → Bool} : ∀ {l l' : List AAlc} {i : Int}, l.map p = l'.map p → findF p l i = findF p l' i
  | [], [], i, _ => rfl
  | [], _ :: _, i, h => by simp at h
  | _ :: _, [], i, h => by simp at h
  | x :: r, y :: r', i, h => by
    simp only [List.map_cons, List.cons.injEq] at h
    unfold findF
    rw [h.1, findF_map h.2]
theorem stopQ_map {p : AAlc → Bool} (hp : ∀ a, p (stopA a) = p a) (l : List AAlc) (qs : List Nat) : (stopQ l qs).map p = l.map p := by
  apply List.ext_getElem?
  intro i
  rw [List.getElem?_map, List.getElem?_map, stopQ_get]
  cases l[i]? with
  | none => rfl
  | some a =>
    simp only [Option.map_some]
    split
    · rw [hp]
    · rfl
theorem allocI_stop (s : AStore) (qs : List Nat) (x : Int) : allocI (withA s (stopQ s.Allocs qs)) x = allocI s x := findF_map (stopQ_map (fun _ => rfl) _ _)
theorem slI_stop (s : AStore) (j : AJob) (qs : List Nat) (p : Int × Int) : slI (withA s (stopQ s.Allocs qs)) j p = slI s j p := findF_map (stopQ_map (fun _ => rfl) _ _)
theorem atI_stop (s : AStore) (qs : List Nat) {n : Nat} {a : AAlc} (h : s.Allocs[n]? = some a) : atI (withA s (stopQ s.Allocs qs)) n = if n ∈ qs then stopA a else a := by
  have : (stopQ s.Allocs qs)[n]? = some (if n ∈ qs then stopA a else a) := by rw [stopQ_get, h]; rfl
  unfold atI
  show (stopQ s.Allocs qs).getD (n : Int).toNat default = _
  simp [this]
theorem isSlot_at {s : AStore} {j : AJob} {p : Int × Int} (h : 0 ≤ slI s j p) : ∃ (n : Nat) (a : AAlc), slI s j p = n ∧ s.Allocs[n]? = some a ∧ atI s (slI s j p) = a ∧ a.Job = j.ID ∧ a.Group = p.1 ∧ a.Index = p.2 ∧ a.State < 3 := by
  rcases slI_at s j p with h1 | ⟨n, a, h1, h2, h3, h4⟩
  · omega
  · simp [isSlot, over] at h3
    exact ⟨n, a, h1, h2, h4, h3.1.1.1, h3.1.1.2, h3.1.2, by omega⟩
theorem rollF_ext (s : AStore) (j : AJob) : ∀ (l : List (Int × Int)) (st sp : List Int) (m : Int), ∃ ps : List (Int × Int), rollF s j l st sp m = st ++ ps.map (fun p => (atI s (slI s j p)).ID) ∧ (∀ p ∈ ps, 0 ≤ slI s j p) ∧ (ps = [] ∨ m + ps.length ≤ j.Parallel)
  | [], st, sp, m => ⟨[], by simp [rollF], by simp, .inl rfl⟩
  | p :: r, st, sp, m => by
    unfold rollF
    by_cases h1 : j.Parallel ≤ m
    · rw [if_pos h1]; exact ⟨[], by simp, by simp, .inl rfl⟩
    · rw [if_neg h1]
      by_cases h2 : mv2 s j sp p = true
      · rw [if_pos h2]; exact rollF_ext s j r st sp m
      · rw [if_neg h2]
        obtain ⟨ps, k1, k2, k3⟩ := rollF_ext s j r (st ++ [(atI s (slI s j p)).ID]) (slI s j p :: sp) (m + 1)
        have h0 : 0 ≤ slI s j p := by
          simp [mv2] at h2; exact h2.1.1.1
        refine ⟨p :: ps, by rw [k1]; simp, ?_, .inr ?_⟩
        · intro x hx
          rcases List.mem_cons.1 hx with rfl | hx
          · exact h0
          · exact k2 x hx
        · rw [List.length_cons]
          rcases k3 with rfl | k3
          · simp; omega
          · omega
theorem countP_mem_le : ∀ (L ps : List (Int × Int)), L.Nodup → L.countP (fun p => decide (p ∈ ps)) ≤ ps.length
  | [], ps, _ => by simp
  | x :: r, ps, h => by
    obtain ⟨hx, hr⟩ := List.nodup_cons.1 h
    rw [List.countP_cons]
    by_cases hm : x ∈ ps
    · have h1 := countP_mem_le r (ps.erase x) hr
      have h2 : r.countP (fun p => decide (p ∈ ps)) = r.countP (fun p => decide (p ∈ ps.erase x)) := by
        refine List.countP_congr ?_
        intro y hy
        have hne : y ≠ x := fun e => hx (e ▸ hy)
        simp [List.mem_erase_of_ne hne]
      have h3 := List.length_erase_of_mem hm
      have h4 : 0 < ps.length := List.length_pos_of_mem hm
      rw [h2]
      simp [hm]; omega
    · have h1 := countP_mem_le r ps hr
      simp [hm]; omega
theorem countP_or_le {f g h : (Int × Int) → Bool} : ∀ (L : List (Int × Int)), (∀ p ∈ L, f p = true → g p = true ∨ h p = true) → L.countP f ≤ L.countP g + L.countP h
  | [], _ => by simp
  | x :: r, hh => by
    have h1 := countP_or_le r (fun p hp => hh p (by simp [hp]))
    rw [List.countP_cons, List.countP_cons, List.countP_cons]
    have h2 := hh x (by simp)
    cases hf : f x <;> cases hg : g x <;> cases hk : h x <;> simp [hf, hg, hk] at h2 ⊢ <;> omega
def qsOf (s : AStore) (j : AJob) (ps : List (Int × Int)) : List Nat := ps.map (fun p => (slI s j p).toNat)
theorem moving_stop (s : AStore) (j : AJob) {ps : List (Int × Int)} (hps : ∀ p ∈ ps, 0 ≤ slI s j p) : movingN (withA s (stopQ s.Allocs (qsOf s j ps))) j ≤ movingN s j + ps.length := by
  unfold movingN
  have hsl : slotsL (withA s (stopQ s.Allocs (qsOf s j ps))) j = slotsL s j := slotsL_nodes (s := s) (t := withA s (stopQ s.Allocs (qsOf s j ps))) rfl j
  rw [hsl]
  have h1 := countP_mem_le (slotsL s j) ps (slotsL_nodup s j)
  have h2 := countP_or_le (f := moves1 (withA s (stopQ s.Allocs (qsOf s j ps))) j) (g := moves1 s j) (h := fun p => decide (p ∈ ps)) (slotsL s j) (by
    intro p _ hm
    rw [moves1_mv] at hm ⊢
    by_cases h0 : slI s j p < 0
    · exact .inl (by simp [mv1, h0])
    · obtain ⟨n, a, e1, e2, e3, e4, e5, e6, e7⟩ := isSlot_at (s := s) (j := j) (p := p) (by omega)
      by_cases hq : n ∈ qsOf s j ps
      · obtain ⟨p', hp', hpe⟩ := List.mem_map.1 hq
        obtain ⟨n', a', f1, f2, f3, f4, f5, f6, f7⟩ := isSlot_at (hps p' hp')
        have : n' = n := by rw [f1] at hpe; simpa using hpe
        subst this
        rw [e2] at f2
        injection f2 with f2
        subst f2
        refine .inr ?_
        have : p' = p := Prod.ext (by rw [← f5, e5]) (by rw [← f6, e6])
        subst this
        simp [hp']
      · refine .inl ?_
        have ht := atI_stop s (qsOf s j ps) e2
        rw [if_neg hq] at ht
        unfold mv1 at hm ⊢
        rw [slI_stop, e1, ht] at hm
        rw [e1] at e3
        rw [e1, e3]
        exact hm)
  omega
/-- What a change starts from: each that runs stands for its slot, and is the only one of its name. -/
def Clean (s : AStore) (j : AJob) : Prop := ∀ (i : Nat) (a : AAlc), s.Allocs[i]? = some a → a.Job = j.ID → a.State < 3 → (a.Group, a.Index) ∈ slotsL s j ∧ drainB s a.Node = false ∧ allocI s a.ID = i
theorem rolls {s : AStore} {j : AJob} (hk : j.Kind = 1) (hc : Clean s j) : ∃ ps : List (Int × Int), stopL s j = ps.map (fun p => (atI s (slI s j p)).ID) ∧ (∀ p ∈ ps, 0 ≤ slI s j p ∧ allocI s (atI s (slI s j p)).ID = slI s j p) ∧
    (movingN (withA s (stopQ s.Allocs (qsOf s j ps))) j ≤ j.Parallel ∨ movingN (withA s (stopQ s.Allocs (qsOf s j ps))) j ≤ movingN s j) := by
  have hst : stopsOf s j = ([], []) := by
    unfold stopsOf
    refine stopF_none s j _ _ 0 [] [] ?_
    intro a ha
    obtain ⟨i, hi⟩ := List.getElem?_of_mem ha
    by_cases hs : skipB j a = true
    · exact .inl hs
    · simp [skipB, over] at hs
      obtain ⟨c1, c2, _⟩ := hc i a hi hs.1.1 (by omega)
      exact .inr (by simp [stopB, c1, c2, hk])
  have hm0 : (((slotsL s j).countP (mv1 s j []) : Nat) : Int) = movingN s j := by
    unfold movingN
    congr 1
    exact List.countP_congr (fun p _ => by rw [moves1_mv])
  have hstop : stopL s j = rollF s j (slotsL s j) [] [] (movingN s j) := by
    unfold stopL; rw [if_pos hk, hst]; unfold rollL; rw [hm0]
  obtain ⟨ps, k1, k2, k3⟩ := rollF_ext s j (slotsL s j) [] [] (movingN s j)
  have hmv := moving_stop s j k2
  refine ⟨ps, by rw [hstop, k1]; rfl, fun p hp => ⟨k2 p hp, ?_⟩, ?_⟩
  · obtain ⟨n, a, e1, e2, e3, e4, e5, e6, e7⟩ := isSlot_at (k2 p hp)
    obtain ⟨_, _, c3⟩ := hc n a e2 e4 e7
    rw [e3, c3, e1]
  · rcases k3 with rfl | k3
    · simp at hmv; exact .inr hmv
    · exact .inl (by omega)

theorem hMoving (s : AStore) (j : AJob) : phi 15 [s.enc, j.enc] = .int .i64 (movingN s j) := by
  show D.int .i64 (movingN (AStore.dec s.enc) (AJob.dec j.enc)) = _
  rw [AStore.dec_enc, AJob.dec_enc]
theorem hMovingPre (s : AStore) (j : AJob) : pre 15 [s.enc, j.enc] = room13 s j := by
  show room13 (AStore.dec s.enc) (AJob.dec j.enc) = _
  rw [AStore.dec_enc, AJob.dec_enc]
theorem stopA_fold (l : List AAlc) (n : Nat) (a : AAlc) (hn : n < l.length) : D.list (List.take n (l.map AAlc.enc) ++ D.agg [.int .i64 a.ID, .int .i64 a.Job, .int .i64 a.Version, .int .i64 a.Group, .int .i64 a.Index, .int .i64 a.Node, .int .i64 a.Epoch, .int .i64 a.CPU, .int .i64 a.Mem, .bool true, .int .i64 a.State] :: List.drop (n + 1) (l.map AAlc.enc)) = encL AAlc.enc (l.set n (stopA a)) := by
  have h := setL_enc AAlc.enc l n (stopA a) hn
  show D.list (List.take n (l.map AAlc.enc) ++ (stopA a).enc :: List.drop (n + 1) (l.map AAlc.enc)) = _
  rw [h]
theorem c4 : PureFn Try.prog 4 s4 (pre 4) (phi 4) := by
  refine pureFn_auto (given := [(29, {drop := [3000016]}), (23, {boxes := [(16, [(5, 40)])]})]) mix con7 Try.func4 (by kernel_rfl) (v := vc4) (by kernel_rfl) ?_
  intro ds h hp
  obtain ⟨_, _, rfl, gs, _, _, rfl, ⟨job, rfl, _⟩, rfl⟩ := h
  obtain ⟨s, rfl, hs⟩ := AStore.cases gs
  have hw : s.enc.wt ≤ 1048576 := by
    have h : wtL [s.enc, .int .i64 job] ≤ 1048576 := hp
    simp only [wtL] at h; omega
  have hR : ∀ l, phi 4 l = .bool true := fun _ => rfl
  simp only [vc4, vh_obl, vh_call, vh_room, vh_branch, vh_loop, vh_again, vh_ret, vh_any, vh_hav, vh_range, implies_true, true_and]
  rcases find0 (fun x : AJob => x.ID == job) s.Jobs with ⟨h1, h2⟩ | ⟨nj, j, h1, hx, h2⟩
  · have h1' : jobI s job = -1 := h1
    simp [-List.any_eq_true, -List.any_eq_false, updV, den, U.den, B.den, upd, condB, toL_list, toL_agg, toL_tup, toL_ptr, toL_fn, toI_int, toB_bool, AStore.toL, AStore.fold, ANode.toL, AAlc.toL, AJob.toL, AGrp.toL, AEvl.toL, ARes.toL, ARes.eta, encL_toL, hRefJob, h1', hR, hLives, hPre2]
  have h1' : jobI s job = nj := h1
  have hid : j.ID = job := by simpa using List.find?_some h2
  obtain ⟨hlt, hge⟩ := List.getElem?_eq_some_iff.1 hx
  have hn0 : ¬ ((nj : Int) < 0) := by omega
  have hrm := room_slots hw (mem_some hx)
  have hsw := slots_wt hw (mem_some hx)
  have hroom := room_wt (N := 1048576) (by omega) hw
  obtain ⟨w1, w2, w3, w4⟩ := wt_store hw
  simp [-List.any_eq_true, -List.any_eq_false, updV, den, U.den, B.den, upd, condB, toL_list, toL_agg, toL_tup, toL_ptr, toL_fn, toI_int, toB_bool, AStore.toL, AStore.fold, ANode.toL, AAlc.toL, AJob.toL, AGrp.toL, AEvl.toL, ARes.toL, ARes.eta, encL_toL, AJob.fold, hRefJob, h1', hn0, hlt, hge, hR, hPre2, hLives, hSlots12, hSlotsPre, hrm]
  intro hk
  refine LoopOk.intro (fun xs => ∃ n : Nat, xs = [.bool false, .int .i64 n] ∧ n ≤ s.Allocs.length ∧ ∀ (i : Nat) a, i < n → s.Allocs[i]? = some a → a.Job = job → a.State < 3 → (a.Group, a.Index) ∈ slotsL s j ∧ drainB s a.Node = false ∧ allocI s a.ID = i) (FM s.Allocs 1) ⟨0, by simp, Nat.zero_le _, fun i a h => by omega⟩ ?_
  rintro xs hxs ⟨n, rfl, hle, hcl⟩
  rcases hz : s.Allocs[n]? with _ | a
  · have hge3 := ge_none hz
    have hn3 : ¬ ((n : Int) < s.Allocs.length) := by omega
    have hclean : Clean s j := fun i a hi g1 g2 => hcl i a (by have := lt_some hi; omega) hi (by rw [g1, hid]) g2
    obtain ⟨ps, r1, r2, r3⟩ := rolls hk hclean
    have hdl : (diffL s job).1 = stopL s j := by simp [diffL, h2]
    have hdlen := (diffL_len hroom job).1
    simp [-List.any_eq_true, -List.any_eq_false, updV, den, U.den, B.den, upd, condB, toL_list, toL_agg, toL_tup, toL_ptr, toL_fn, toI_int, toB_bool, AStore.toL, AStore.fold, ANode.toL, AAlc.toL, AJob.toL, AGrp.toL, AEvl.toL, ARes.toL, ARes.eta, encL_toL, AJob.fold, hn3, hge3, hMoving, hMovingPre, hrm, hDiff, hDiffPre, hroom.j, hCopy, hPre2, hlt, hge]
    rw [hdl, r1] at hdlen ⊢
    rw [List.length_map] at hdlen
    refine LoopOk.intro (fun xs => ∃ k : Nat, xs = [.bool false, .int .i64 k, .int .i64 s.Index, .int .i64 s.Next, encL AAlc.enc (stopQ s.Allocs (qsOf s j (ps.take k)))] ∧ k ≤ ps.length) (fun xs => ps.length - (I (.list xs) 1).toNat) ⟨0, by simp [qsOf, stopQ_nil], Nat.zero_le _⟩ ?_
    rintro xs hxs ⟨k, rfl, hk2⟩
    rcases hy : ps[k]? with _ | p
    · have hge4 := ge_none hy
      have hn4 : ¬ ((k : Int) < ps.length) := by omega
      rw [List.take_of_length_le hge4]
      have hrm2 : room13 (withA s (stopQ s.Allocs (qsOf s j ps))) j := by
        have : slotsL (withA s (stopQ s.Allocs (qsOf s j ps))) j = slotsL s j := slotsL_nodes (s := s) (t := withA s (stopQ s.Allocs (qsOf s j ps))) rfl j
        unfold room13 at hrm ⊢
        rw [this]; exact hrm
      simp [-List.any_eq_true, -List.any_eq_false, updV, den, U.den, B.den, upd, condB, toL_list, toL_agg, toL_tup, toL_ptr, toL_fn, toI_int, toB_bool, AStore.toL, AStore.fold, ANode.toL, AAlc.toL, AJob.toL, AGrp.toL, AEvl.toL, ARes.toL, ARes.eta, encL_toL, AJob.fold, ints_len, hn4, hge4, with_fold, hMoving, hMovingPre, hrm2, hLives, hPre2, hlt, hge]
      exact r3
    · obtain ⟨hlt4, hge4⟩ := List.getElem?_eq_some_iff.1 hy
      have hw4 : IntKind.i64.wrap ((k : Int) + 1) = (k : Int) + 1 := wrap64 (by omega) (by omega)
      obtain ⟨r2a, r2b⟩ := r2 p (mem_some hy)
      obtain ⟨q, b, e1, e2, e3, _, _, _, _⟩ := isSlot_at r2a
      have hT := stopQ_get s.Allocs (qsOf s j (ps.take k)) q
      rw [e2, Option.map_some] at hT
      generalize hTb : (if q ∈ qsOf s j (ps.take k) then stopA b else b) = b' at hT
      have hset := stopQ_set hT
      obtain ⟨hTl, hTg⟩ := List.getElem?_eq_some_iff.1 hT
      have hai := allocI_stop s (qsOf s j (ps.take k)) (atI s (slI s j p)).ID
      rw [r2b, e1] at hai
      have hqs : qsOf s j (ps.take (k + 1)) = qsOf s j (ps.take k) ++ [q] := by
        unfold qsOf
        rw [List.take_add_one, hy]; simp [e1]
      have hq0 : ¬ ((q : Int) < 0) := by omega
      simp [-List.any_eq_true, -List.any_eq_false, updV, den, U.den, B.den, upd, condB, toL_list, toL_agg, toL_tup, toL_ptr, toL_fn, toI_int, toB_bool, AStore.toL, AStore.fold, ANode.toL, AAlc.toL, AJob.toL, AGrp.toL, AEvl.toL, ARes.toL, ARes.eta, encL_toL, AAlc.toL, ints_len, ints_toL, hlt4, hge4, hw4, Nat.not_le.2 hlt4, with_fold, hRefAlloc, e1, hai, hPre2, hq0, hTl, hTg]
      have hfd := stopA_fold _ q b' hTl
      rw [hset] at hfd
      rw [hfd]
      exact ⟨⟨k + 1, ⟨by simp, by rw [hqs]⟩, hlt4⟩, by show ps.length - ((k : Int) + 1).toNat < ps.length - (k : Int).toNat; omega⟩
  · obtain ⟨hlt3, hge3⟩ := List.getElem?_eq_some_iff.1 hz
    have hw3 := next64 hs.Allocs.1.1 hlt3
    have hm : s.Allocs.length - (((n + 1 : Nat) : Int)).toNat < s.Allocs.length - ((n : Nat) : Int).toNat := by omega
    have nx : ((a.Job = job → a.State < 3 → (a.Group, a.Index) ∈ slotsL s j ∧ drainB s a.Node = false ∧ allocI s a.ID = n)) → ∀ (i : Nat) c, i < n + 1 → s.Allocs[i]? = some c → c.Job = job → c.State < 3 → (c.Group, c.Index) ∈ slotsL s j ∧ drainB s c.Node = false ∧ allocI s c.ID = i := by
      intro h i c hi hc
      by_cases hin : i = n
      · subst hin
        rw [hz] at hc
        injection hc with hc
        subst hc
        exact h
      · exact hcl i c (by omega) hc
    simp [-List.any_eq_true, -List.any_eq_false, updV, den, U.den, B.den, upd, condB, toL_list, toL_agg, toL_tup, toL_ptr, toL_fn, toI_int, toB_bool, AStore.toL, AStore.fold, ANode.toL, AAlc.toL, AJob.toL, AGrp.toL, AEvl.toL, ARes.toL, ARes.eta, encL_toL, AAlc.toL, hlt3, hge3, hw3, Nat.not_le.2 hlt3]
    refine ⟨fun h => ⟨⟨n + 1, by simp, hlt3, nx (fun g1 g2 => by rcases h with h | h; exact absurd g1 h; omega)⟩, hm⟩, fun g1 g2 => ?_⟩
    generalize hL : slotsL s j = L at hsw nx hcl
    refine LoopOk.intro (fun xs => ∃ k : Nat, xs = [.bool ((L.take k).any (fun p => p.1 == a.Group && p.2 == a.Index)), .int .i64 k] ∧ k ≤ L.length) (FM L 1) ⟨0, by simp, Nat.zero_le _⟩ ?_
    rintro xs hxs ⟨k, rfl, hk2⟩
    rcases hy : L[k]? with _ | p
    · have hge4 := ge_none hy
      have hn4 : ¬ ((k : Int) < L.length) := by omega
      rw [List.take_of_length_le hge4]
      have hany : L.any (fun p => p.1 == a.Group && p.2 == a.Index) = decide ((a.Group, a.Index) ∈ L) := by
        rw [Bool.eq_iff_iff]
        simp only [List.any_eq_true, Bool.and_eq_true, beq_iff_eq, decide_eq_true_eq]
        exact ⟨fun ⟨p, h1, h2, h3⟩ => by rw [← h2, ← h3]; exact h1, fun h => ⟨_, h, rfl, rfl⟩⟩
      rw [hany]
      have hslo := hSlotR s job a.Group a.Index
      rcases nodeI_at s a.Node with hq | ⟨m, b, hq, hb, hbt⟩
      · have hd : drainB s a.Node = false := by simp [drainB, hq]
        simp [-List.any_eq_true, -List.any_eq_false, updV, den, U.den, B.den, upd, condB, toL_list, toL_agg, toL_tup, toL_ptr, toL_fn, toI_int, toB_bool, AStore.toL, AStore.fold, ANode.toL, AAlc.toL, AJob.toL, AGrp.toL, AEvl.toL, ARes.toL, ARes.eta, encL_toL, AAlc.toL, hlt3, hge3, hn4, hge4, hRefNode, hRefAlloc, hslo, hPre2, hLives, hq]
        exact fun c1 _ c3 => ⟨⟨n + 1, by simp, hlt3, nx (fun _ _ => ⟨c1, hd, c3⟩)⟩, hm⟩
      · obtain ⟨hltm, hgem⟩ := List.getElem?_eq_some_iff.1 hb
        rw [hq] at hbt
        have hd : drainB s a.Node = b.Drain := by simp [drainB, hq, hbt]
        have h0m : (0 : Int) ≤ m := by omega
        simp [-List.any_eq_true, -List.any_eq_false, updV, den, U.den, B.den, upd, condB, toL_list, toL_agg, toL_tup, toL_ptr, toL_fn, toI_int, toB_bool, AStore.toL, AStore.fold, ANode.toL, AAlc.toL, AJob.toL, AGrp.toL, AEvl.toL, ARes.toL, ARes.eta, encL_toL, AAlc.toL, ANode.toL, hlt3, hge3, hn4, hge4, hRefNode, hRefAlloc, hslo, hPre2, hLives, hq, hltm, hgem, h0m]
        exact fun c1 c2 _ c3 => ⟨⟨n + 1, by simp, hlt3, nx (fun _ _ => ⟨c1, by rw [hd, c2], c3⟩)⟩, hm⟩
    · obtain ⟨hlt4, hge4⟩ := List.getElem?_eq_some_iff.1 hy
      have hw4 : IntKind.i64.wrap ((k : Int) + 1) = (k : Int) + 1 := wrap64 (by omega) (by omega)
      simp [-List.any_eq_true, -List.any_eq_false, updV, den, U.den, B.den, upd, condB, toL_list, toL_agg, toL_tup, toL_ptr, toL_fn, toI_int, toB_bool, AStore.toL, AStore.fold, ANode.toL, AAlc.toL, AJob.toL, AGrp.toL, AEvl.toL, ARes.toL, ARes.eta, encL_toL, AAlc.toL, slotE_toL, hlt3, hge3, hlt4, hge4, hw4, Nat.not_le.2 hlt4]
      refine ⟨⟨k + 1, ⟨?_, by simp⟩, hlt4⟩, by show L.length - ((k : Int) + 1).toNat < L.length - (k : Int).toNat; omega⟩
      rw [any_take hy]
theorem con4 : Con Try.prog pre phi tb4 := con_cons c4 con7

end Go.Proofs.Ytippnelhkdjknaa
