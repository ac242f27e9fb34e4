/-
  A store's copy lies in new blocks alone: the parts that hang on no program.
-/
import Derived.Test.YtjpkeliliahjoaaCX
import Derived.Test.YtjpkeliliahjoaaEngSd
set_option linter.unusedSimpArgs false
set_option linter.unusedVariables false
namespace Go.Proofs.Ytjpkeliliahjoaa
open Go Go.RowKit Go.Eng Go.Proofs

/- A store's copy lies in new blocks alone: the parts that hang on no program. -/
theorem resOk_own {w : World} {S : Foot} {τ : Nat → Value} {t : Ty} {j : Nat} {T : TypeId} {v : Value} {d : D} (h : ResOk w 0 S τ [(false, [(t, some (j, T))])] v d) : v = τ j ∧ OwnD (exN j) w 0 S T t (τ j) d := by
  rcases h with ⟨c, hc, h⟩ | ⟨hne, _⟩
  · injection hc with hc _
    subst hc
    unfold CompOk at h
    simp only [Bool.false_eq_true, if_false] at h
    obtain ⟨x, hx, h⟩ := h
    injection hx with hx _
    subst hx
    exact h
  · exact absurd rfl hne

/-- A call of a function that hands a list's copy back. -/
theorem clone_calls {P : Program} {f : Nat} {t : Ty} {T : TypeId} {Pre : List D → Prop} {Φ : List D → D} (hc : PureFn P f ⟨[.list t], [(false, [(t, some (0, T))])], none⟩ Pre Φ) {w : World} {S : Foot} {v : Value} {d : D} (hΦ : Φ [d] = d) (hp : Pre [d])
    (hS : ∀ b o, S b o → b < w.heap.size) (hr : Rep w S v d) (ht : Has (.list t) d) :
    Calls P f [v].toArray w fun e w' => ∃ v' S', e = .returned v' ∧ Below w.heap.size w w' ∧ (∀ b o, S b o → S' b o) ∧ (∀ b o, S' b o → b < w'.heap.size) ∧ (∀ b o, S' b o → S b o ∨ w.heap.size ≤ b) ∧ OwnD false w' 0 S' T t v' d ∧ (∀ b, v'.ownBlock = some b → w.heap.size ≤ b) := by
  refine (hc.calls rfl w S [v] [d] hS rfl (by intro i u x hu hx; match i with | 0 => (simp at hu hx; subst hu; subst hx; exact hr) | i + 1 => simp at hu) (has_cons.2 ⟨_, _, rfl, ht, has_nil.2 rfl⟩) hp).mono ?_
  rintro e w' ⟨v', S', τ, rfl, h1, h2, h3, h4, h5, h6, _⟩
  rw [hΦ] at h5
  obtain ⟨rfl, h8⟩ := resOk_own h5
  exact ⟨_, S', rfl, h1, h2, h3, h4, h8, fun b hb => h6 0 b (by simp [ownIdx]) hb⟩

/-- A list of bare things does not lie among the cells of a row in which every so-many-th cell is a slice. -/
theorem rep_off {w : World} {S : Foot} {b0 n : Nat} {xs : List Value} {u : Value} {al : List D} {t : Ty} (ht : t.cells.all Ty.bare = true) (hk : 5 ≤ t.cells.length) (hall : ∀ x ∈ al, Has t x) (hr : Rep w S u (.list al))
    (hrow : ∀ o, S b0 o → o < xs.length) (hx : xs.length = n * 5) (hcell : ∀ (o : Nat) v, xs[o]? = some v → w.cell? ⟨b0, o, none⟩ = some v) (hsl : ∀ k, k < n → ∃ A m c, xs[k * 5 + 4]? = some (.slice A m c)) :
    Rep w (fun b o => S b o ∧ b ≠ b0) u (.list al) := by
  cases hr with
  | nil A c => exact .nil A c
  | list b off cap sz ys _ hsz hne hcap hl hS hc hw h =>
    obtain ⟨d0, r, rfl⟩ : ∃ d0 r, al = d0 :: r := by
      cases al with
      | nil => exact absurd rfl hne
      | cons d0 r => exact ⟨d0, r, rfl⟩
    have h0 := has_cells (hall d0 (by simp))
    have hsz' : sz = t.cells.length := by rw [← h0.1]; exact (hw 0 d0 rfl).symm
    have hlen : t.cells.length ≤ ys.length := by
      rw [hl, hsz', List.length_cons, Nat.add_mul]; omega
    have hbb : b ≠ b0 := by
      rintro rfl
      -- an index that is a slice's
      obtain ⟨i, hi, hmod⟩ : ∃ i, i < 5 ∧ (off + i) % 5 = 4 := ⟨4 - off % 5, by omega, by omega⟩
      have hil : i < ys.length := by omega
      have hlt := hrow _ (hS i hil)
      obtain ⟨A, m, c, hs⟩ := hsl ((off + i) / 5) (by rw [Nat.div_lt_iff_lt_mul (by omega)]; omega)
      rw [show (off + i) / 5 * 5 + 4 = off + i by omega] at hs
      have e1 := hcell _ _ hs
      have e2 := hc i _ (List.getElem?_eq_getElem hil)
      rw [e1] at e2
      injection e2 with e2
      have hil' : i < t.cells.length := by omega
      obtain ⟨x, hx1, hx2⟩ := h0.2 i _ (List.getElem?_eq_getElem hil')
      have hb := List.all_eq_true.1 ht _ (List.getElem_mem hil')
      have e3 := h 0 d0 i (ys[i]) x rfl hx1 (by rw [Nat.zero_mul, Nat.zero_add]; exact List.getElem?_eq_getElem hil)
      rw [← e2] at e3
      generalize t.cells[i] = ti at *
      cases ti <;> simp [Ty.bare] at hb
      · obtain ⟨q, rfl, _⟩ := has_int.1 hx2; cases e3
      · obtain ⟨q, rfl⟩ := has_bool.1 hx2; cases e3
      · obtain ⟨q, rfl⟩ := has_str.1 hx2; cases e3
    refine .list b off cap sz ys _ hsz hne hcap hl (fun i hi => ⟨hS i hi, hbb⟩) hc hw (fun i d j v c hi hj hv => ?_)
    have hd := has_cells (hall d (List.mem_of_getElem? hi))
    have hjl : j < t.cells.length := by rw [← hd.1]; exact (List.getElem?_eq_some_iff.1 hj).1
    obtain ⟨x, hx1, hx2⟩ := hd.2 j _ (List.getElem?_eq_getElem hjl)
    rw [hj] at hx1
    injection hx1 with hx1
    subst hx1
    exact rep_bare (List.all_eq_true.1 ht _ (List.getElem_mem hjl)) hx2 (h i d j v c hi hj hv)

/-- A list of bare things in a row of its own reads off that row alone. -/
theorem rep_row {w : World} {S S2 : Foot} {T : TypeId} {t : Ty} {v : Value} {d : D} (ht : t.cells.all Ty.bare = true) (h : OwnD false w 0 S T t v d) (h2 : ∀ b o, S b o → v.ownBlock = some b → S2 b o) : Rep w S2 v d := by
  obtain ⟨hhas, hsz, xs, l, rfl, hown, hS, hr⟩ := h
  obtain ⟨l', hl', _, hall⟩ := has_list.1 hhas
  injection hl' with hl'; subst hl'
  rcases hown.2 with ⟨rfl, hn⟩ | ⟨b, cap, cur, rfl, _, hg, hcap, _, _, htake⟩
  · obtain rfl : l = [] := List.eq_nil_of_length_eq_zero hn
    exact .nil none 0
  · by_cases hl : l = []
    · subst hl; exact .nil _ _
    · have hcell := hown.cells (g := b) rfl
      refine .list b 0 cap t.cells.length xs l hsz hl hcap hown.1 (fun i hi => ?_) (fun i u hu => ?_) (fun i x hx => (has_cells (hall x (List.mem_of_getElem? hx))).1) (fun i x j u c hx hj hu => ?_)
      · rw [Nat.zero_add]; exact h2 b i ((hS b rfl i).2 ⟨rfl, hi⟩) rfl
      · have := hcell i u hu
        rw [addr_add, Nat.zero_add] at this
        rw [Nat.zero_add]; exact this
      · have hd := has_cells (hall x (List.mem_of_getElem? hx))
        have hjl : j < t.cells.length := by rw [← hd.1]; exact (List.getElem?_eq_some_iff.1 hj).1
        obtain ⟨y, hy1, hy2⟩ := hd.2 j _ (List.getElem?_eq_getElem hjl)
        rw [hj] at hy1
        injection hy1 with hy1
        subst hy1
        exact rep_bare (List.all_eq_true.1 ht _ (List.getElem_mem hjl)) hy2 (hr i x j u c hx hj hu)

/- The loop of the store's copy, round by round: what is known ahead of a round is known behind it. -/
/-- Ahead of round i: the first i answers' lists lie in new blocks, the others where they lay. -/
structure Lp (w0 : World) (b1 b2 : Nat) (us : List Value) (T1 T2 TS : TypeId) (vs : List Value) (vS : Value) (ds seen : List D) (S4 : Foot) (i : Nat) (xs : List Value) (F : Foot) (w : World) : Prop where
  below : Below w0.heap.size w0 w
  n1 : w0.heap.size ≤ b1
  n2 : w0.heap.size ≤ b2
  n12 : b1 ≠ b2
  h1 : w.heap[b1]? = some (.cells us.toArray T1 (0, 0))
  h2 : w.heap[b2]? = some (.cells vs.toArray T2 (0, 0))
  ul : us.length = 9
  vl : vs.length = 9
  row : w.ownsRow w0.heap.size TS 5 vS seen.length xs
  ne1 : vS.ownBlock ≠ some b1
  ne2 : vS.ownBlock ≠ some b2
  lt : ∀ b o, S4 b o → b < w.heap.size
  off : ∀ b o, S4 b o → vS.ownBlock ≠ some b ∧ b ≠ b1 ∧ b ≠ b2
  fn : ∀ b o, F b o → w0.heap.size ≤ b ∧ b < w.heap.size ∧ b ≠ b1 ∧ b ≠ b2 ∧ vS.ownBlock ≠ some b ∧ ∃ cur T, w.heap[b]? = some (.cells cur T (0, 0))
  u8 : ∀ (j : Nat) v d, j < 8 → us[j]? = some v → ds[j]? = some d → Rep w F v d
  u9 : us[8]? = some vS
  ty : ∀ d ∈ seen, Has seenT d
  el : ∀ (k : Nat) d (j : Nat) v c, seen[k]? = some d → d.cells[j]? = some c → xs[k * 5 + j]? = some v → Rep w (if j = 4 ∧ i ≤ k then S4 else F) v c

theorem seen_cells {d : D} (h : Has seenT d) : ∃ x0 x1 x2 x3 al, d = .agg [x0, x1, x2, x3, .list al] ∧ Has (.int .i64) x0 ∧ Has (.int .i64) x1 ∧ Has (.int .i64) x2 ∧ Has (.int .i64) x3 ∧ Has (.list allocT) (.list al) := by
  obtain ⟨_, rfl, a0, _, rfl, h0, a1, _, rfl, h1, a2, _, rfl, h2, a3, _, rfl, h3, a4, _, rfl, h4, rfl⟩ := h
  obtain ⟨al, rfl, h5⟩ := h4
  exact ⟨a0, a1, a2, a3, al, rfl, h0, h1, h2, h3, al, rfl, h5⟩

section
variable {w0 w w1 : World} {b1 b2 : Nat} {us : List Value} {T1 T2 TS : TypeId} {vs : List Value} {vS : Value} {ds seen : List D} {S4 : Foot} {i : Nat} {xs : List Value} {F : Foot}
/-- What a later world keeps. -/
theorem Lp.later (hL : Lp w0 b1 b2 us T1 T2 TS vs vS ds seen S4 i xs F w) (hb : Below w.heap.size w w1) : Lp w0 b1 b2 us T1 T2 TS vs vS ds seen S4 i xs F w1 := by
  have hc : ∀ b o, b < w.heap.size → w1.cell? ⟨b, o, none⟩ = w.cell? ⟨b, o, none⟩ := fun b o h => cell_heap (hb.block b h)
  have l1 : b1 < w.heap.size := (Array.getElem?_eq_some_iff.1 hL.h1).1
  have l2 : b2 < w.heap.size := (Array.getElem?_eq_some_iff.1 hL.h2).1
  refine ⟨below_trans hL.below hb hL.below.size, hL.n1, hL.n2, hL.n12, by rw [hb.block _ l1]; exact hL.h1, by rw [hb.block _ l2]; exact hL.h2, hL.ul, hL.vl, ?_, hL.ne1, hL.ne2, fun b o h => Nat.lt_of_lt_of_le (hL.lt b o h) hb.size, hL.off, fun b o h => ?_, fun j v d hj hv hd => ?_, hL.u9, hL.ty, fun k d j v c h1 h2 h3 => ?_⟩
  · refine ⟨hL.row.1, ?_⟩
    rcases hL.row.2 with h | ⟨g, cap, cur, e, hg, hh, r⟩
    · exact .inl h
    · exact .inr ⟨g, cap, cur, e, hg, by rw [hb.block g (Array.getElem?_eq_some_iff.1 hh).1]; exact hh, r⟩
  · obtain ⟨q1, q2, q3, q4, q5, cur, T, q6⟩ := hL.fn b o h
    exact ⟨q1, Nat.lt_of_lt_of_le q2 hb.size, q3, q4, q5, cur, T, by rw [hb.block b q2]; exact q6⟩
  · exact (hL.u8 j v d hj hv hd).keep (fun _ _ h => h) (fun b o h => hc b o (hL.fn b o h).2.1)
  · refine (hL.el k d j v c h1 h2 h3).keep (fun _ _ h => h) (fun b o h => hc b o ?_)
    split at h
    · exact hL.lt b o h
    · exact (hL.fn b o h).2.1
theorem Lp.drew (hL : Lp w0 b1 b2 us T1 T2 TS vs vS ds seen S4 i xs F w) : Lp w0 b1 b2 us T1 T2 TS vs vS ds seen S4 i xs F { w with drawn := w.drawn + 1 } :=
  hL.later ⟨rfl, rfl, rfl, Nat.le_refl _, fun _ _ => rfl⟩

/-- Where the row lies, if there is something in it. -/
theorem Lp.at (hL : Lp w0 b1 b2 us T1 T2 TS vs vS ds seen S4 i xs F w) (hi : i < seen.length) : ∃ g cap cur, vS = .slice (some ⟨g, 0, none⟩) seen.length cap ∧ w0.heap.size ≤ g ∧ w.heap[g]? = some (.cells cur TS (0, 0)) ∧ i * 5 + 5 ≤ cur.size ∧ g ≠ b1 ∧ g ≠ b2 ∧
    ∀ (o : Nat) v, xs[o]? = some v → cur[o]? = some v := by
  rcases hL.row.2 with ⟨_, hn⟩ | ⟨g, cap, cur, e, hg, hh, h3, h4, h5, h6⟩
  · omega
  · refine ⟨g, cap, cur, e, hg, hh, ?_, ?_, ?_, fun o v hv => ?_⟩
    · have : (i + 1) * 5 ≤ cap * 5 := Nat.mul_le_mul_right _ (by omega)
      omega
    · rintro rfl; exact hL.ne1 (by rw [e]; rfl)
    · rintro rfl; exact hL.ne2 (by rw [e]; rfl)
    · rw [← h6, List.getElem?_take] at hv
      split at hv
      · simpa using hv
      · cases hv

/-- What a round does to what is known. -/
theorem Lp.step (hL : Lp w0 b1 b2 us T1 T2 TS vs vS ds seen S4 i xs F w) (hi : i < seen.length) (hb : Below w.heap.size w w1) {v' : Value} {al : List D} {d : D} {S' : Foot} {TA : TypeId} (hd : seen[i]? = some d) (hal : d.cells[4]? = some (.list al))
    (hown : OwnD false w1 0 S' TA allocT v' (.list al)) (hnew : ∀ b, v'.ownBlock = some b → w.heap.size ≤ b) (hS' : ∀ b o, S' b o → b < w1.heap.size) {g cap : Nat} {cur : Array Value} (hg : vS = .slice (some ⟨g, 0, none⟩) seen.length cap) (hcur : w1.heap[g]? = some (.cells cur TS (0, 0))) :
    ∃ xs' F', Lp w0 b1 b2 us T1 T2 TS vs vS ds seen S4 (i + 1) xs' F' (w1.setRow g (cur.toList.take (i * 5 + 4) ++ [v'] ++ cur.toList.drop (i * 5 + 4 + 1)).toArray) := by
  have hL1 := hL.later hb
  have hgw : g < w.heap.size := by
    rcases hL.row.2 with ⟨_, hn⟩ | ⟨g', cap', cur', e, hg', hh, _⟩
    · omega
    · rw [hg] at e
      injection e with e
      injection e with e
      injection e with e
      subst e
      exact (Array.getElem?_eq_some_iff.1 hh).1
  obtain ⟨hgN, hcs, hcapl, hcapm, hcurs, htake⟩ : w0.heap.size ≤ g ∧ i * 5 + 5 ≤ cur.size ∧ seen.length ≤ cap ∧ cap ≤ maxLen ∧ cur.size = cap * 5 ∧ cur.toList.take (seen.length * 5) = xs := by
    rcases hL1.row.2 with ⟨_, hn⟩ | ⟨g', cap', cur', e, hg', hh, h3, h4, h5, h6⟩
    · omega
    · rw [hg] at e
      injection e with e e2 e3
      injection e with e
      injection e with e
      subst e; subst e3
      rw [hcur] at hh
      injection hh with hh
      injection hh with hh
      subst hh
      refine ⟨hg', ?_, h3, h4, h5, h6⟩
      have : (i + 1) * 5 ≤ cap * 5 := Nat.mul_le_mul_right _ (by omega)
      omega
  have hgb : vS.ownBlock = some g := by rw [hg]; rfl
  have hg1 : g ≠ b1 := by rintro rfl; exact hL.ne1 hgb
  have hg2 : g ≠ b2 := by rintro rfl; exact hL.ne2 hgb
  have hsp : cur.toList.take (i * 5 + 4) ++ [v'] ++ cur.toList.drop (i * 5 + 4 + 1) = cur.toList.set (i * 5 + 4) v' := set_splice (by rw [Array.length_toList]; omega)
  rw [hsp]
  obtain ⟨w2, hw2⟩ : ∃ w2, w2 = w1.setRow g (cur.toList.set (i * 5 + 4) v').toArray := ⟨_, rfl⟩
  rw [← hw2]
  have hheap : w2.heap[g]? = some (.cells (cur.toList.set (i * 5 + 4) v').toArray TS (0, 0)) := by rw [hw2]; exact setRow_heap w1 g _ _ TS _ hcur
  have hother : ∀ k, k ≠ g → w2.heap[k]? = w1.heap[k]? := fun k hk => by rw [hw2]; exact setRow_other w1 g k _ hk
  have hsize : w2.heap.size = w1.heap.size := by rw [hw2]; simp
  have hbel : Below w0.heap.size w0 w2 := by rw [hw2]; exact below_setRow hL1.below hgN
  have hvg : ∀ b, v'.ownBlock = some b → b ≠ g := fun b hb' e => by have := hnew b hb'; omega
  obtain ⟨F', hF'⟩ : ∃ F' : Foot, F' = fun b o => F b o ∨ v'.ownBlock = some b ∧ S' b o := ⟨_, rfl⟩
  have hvr : Rep w1 F' v' (.list al) := rep_row (by rfl) hown (fun b o h1 h2 => by rw [hF']; exact .inr ⟨h2, h1⟩)
  have hF'g : ∀ b o, F' b o → b ≠ g := by
    intro b o h
    rw [hF'] at h
    rcases h with h | ⟨h, _⟩
    · intro e; subst e; exact (hL.fn b o h).2.2.2.2.1 hgb
    · exact hvg b h
  have hF'old : ∀ b o, F b o → F' b o := fun b o h => by rw [hF']; exact .inl h
  have hS4g : ∀ b o, S4 b o → b ≠ g := fun b o h e => (hL.off b o h).1 (by rw [e]; exact hgb)
  refine ⟨xs.set (i * 5 + 4) v', F', hbel, hL.n1, hL.n2, hL.n12, by rw [hother _ hg1.symm]; exact hL1.h1, by rw [hother _ hg2.symm]; exact hL1.h2, hL.ul, hL.vl, ?_, hL.ne1, hL.ne2, fun b o h => by rw [hsize]; exact hL1.lt b o h, hL.off, fun b o h => ?_, fun j v d hj hv hd => ?_, hL.u9, hL.ty, fun k d' j v c h1 h2 h3 => ?_⟩
  · refine ⟨by rw [List.length_set]; exact hL.row.1, .inr ⟨g, cap, _, hg, hgN, hheap, hcapl, hcapm, by simp [hcurs], ?_⟩⟩
    rw [← htake, ← List.take_set]
  · have hbg := hF'g b o h
    rw [hF'] at h
    rcases h with h | ⟨h, hS⟩
    · obtain ⟨q1, q2, q3, q4, q5, cur', T, q6⟩ := hL1.fn b o h
      exact ⟨q1, by rw [hsize]; exact q2, q3, q4, q5, cur', T, by rw [hother b hbg]; exact q6⟩
    · have hn := hnew b h
      have l1 : b1 < w.heap.size := (Array.getElem?_eq_some_iff.1 hL.h1).1
      have l2 : b2 < w.heap.size := (Array.getElem?_eq_some_iff.1 hL.h2).1
      obtain ⟨_, _, ys, l', _, hro, _⟩ := hown
      refine ⟨Nat.le_trans hL.below.size hn, by rw [hsize]; exact hS' b o hS, by omega, by omega, by rw [hgb]; intro e; injection e with e; omega, ?_⟩
      rcases hro.2 with ⟨e, _⟩ | ⟨g', cap', cur', e, _, hh, _⟩
      · rw [e] at h; cases h
      · rw [e] at h
        simp only [Value.ownBlock, Option.some.injEq] at h
        subst h
        exact ⟨cur', TA, by rw [hother _ hbg]; exact hh⟩
  · exact (hL1.u8 j v d hj hv hd).keep hF'old (fun b o h => cell_heap (hother b (hF'g b o (hF'old b o h))))
  · have hj5 : j < 5 := by
      obtain ⟨x0, x1, x2, x3, al', rfl, _⟩ := seen_cells (hL.ty d' (List.mem_of_getElem? h1))
      exact (List.getElem?_eq_some_iff.1 h2).1
    by_cases he : k * 5 + j = i * 5 + 4
    · obtain ⟨rfl, rfl⟩ : k = i ∧ j = 4 := by omega
      rw [List.getElem?_set_self (by rw [hL.row.1]; omega)] at h3
      injection h3 with h3
      subst h3
      rw [hd] at h1
      injection h1 with h1
      subst h1
      rw [hal] at h2
      injection h2 with h2
      subst h2
      rw [if_neg (by omega)]
      exact hvr.keep (fun _ _ h => h) (fun b o h => cell_heap (hother b (hF'g b o h)))
    · rw [List.getElem?_set_ne (Ne.symm he)] at h3
      have h4 := hL1.el k d' j v c h1 h2 h3
      by_cases hcnd : j = 4 ∧ i ≤ k
      · rw [if_pos hcnd] at h4
        rw [if_pos (by omega)]
        exact h4.keep (fun _ _ h => h) (fun b o h => cell_heap (hother b (hS4g b o h)))
      · rw [if_neg hcnd] at h4
        rw [if_neg (by omega)]
        exact h4.keep hF'old (fun b o h => cell_heap (hother b (hF'g b o (hF'old b o h))))
end

/- A store's copy lies in new blocks alone: its operations, one by one. -/
noncomputable def o4 : Array Oper := regOps 4 (bodyOf Try.f30)
theorem o4_0 : ∃ ty pos af, o4[0]? = some ⟨some 28, .fieldAddr 29 (.tmp 1) 8, ty, pos, af, none⟩ := ⟨_, _, _, rfl⟩
theorem o4_1 : ∃ ty pos af, o4[1]? = some ⟨some 29, .load 27 (.tmp 28), ty, pos, af, none⟩ := ⟨_, _, _, rfl⟩
theorem o4_2 : ∃ ty pos af, o4[2]? = some ⟨some 30, .call { callee := .value (.func 55), args := #[.tmp 29], argTypes := #[27] }, ty, pos, af, none⟩ := ⟨_, _, _, rfl⟩
theorem o4_3 : ∃ ty pos af, o4[3]? = some ⟨some 31, .fieldAddr 29 (.tmp 1) 8, ty, pos, af, none⟩ := ⟨_, _, _, rfl⟩
theorem o4_4 : ∃ ty pos af, o4[4]? = some ⟨none, .store 27 (.tmp 31) (.tmp 30), ty, pos, af, none⟩ := ⟨_, _, _, rfl⟩
theorem o4_n : o4.size = 5 := by kernel_rfl
noncomputable def o5 : Array Oper := regOps 5 (bodyOf Try.f30)
theorem o5_0 : ∃ ty pos af, o5[0]? = some ⟨some 32, .fieldAddr 29 (.tmp 1) 8, ty, pos, af, none⟩ := ⟨_, _, _, rfl⟩
theorem o5_1 : ∃ ty pos af, o5[1]? = some ⟨some 33, .load 27 (.tmp 32), ty, pos, af, none⟩ := ⟨_, _, _, rfl⟩
theorem o5_2 : ∃ ty pos af, o5[2]? = some ⟨some 34, .call { callee := .builtin .len, args := #[.tmp 33], argTypes := #[27] }, ty, pos, af, none⟩ := ⟨_, _, _, rfl⟩
theorem o5_3 : ∃ ty pos af, o5[3]? = some ⟨some 35, .move (.const (.int .i64 0)), ty, pos, af, none⟩ := ⟨_, _, _, rfl⟩
theorem o5_n : o5.size = 4 := by kernel_rfl
noncomputable def o6 : Array Oper := regOps 6 (bodyOf Try.f30)
theorem o6_0 : ∃ ty pos af, o6[0]? = some ⟨some 36, .binOp .lss 3 (.tmp 35) (.tmp 34) 3, ty, pos, af, none⟩ := ⟨_, _, _, rfl⟩
theorem o6_n : o6.size = 1 := by kernel_rfl
noncomputable def o7 : Array Oper := regOps 7 (bodyOf Try.f30)
theorem o7_0 : ∃ ty pos af, o7[0]? = some ⟨some 37, .move (.tmp 35), ty, pos, af, none⟩ := ⟨_, _, _, rfl⟩
theorem o7_1 : ∃ ty pos af, o7[1]? = some ⟨some 3, .assign (.tmp 37), ty, pos, af, none⟩ := ⟨_, _, _, rfl⟩
theorem o7_n : o7.size = 2 := by kernel_rfl
noncomputable def o8 : Array Oper := regOps 8 (bodyOf Try.f30)
theorem o8_0 : ∃ ty pos af, o8[0]? = some ⟨some 38, .fieldAddr 29 (.tmp 1) 8, ty, pos, af, none⟩ := ⟨_, _, _, rfl⟩
theorem o8_1 : ∃ ty pos af, o8[1]? = some ⟨some 39, .load 27 (.tmp 38), ty, pos, af, none⟩ := ⟨_, _, _, rfl⟩
theorem o8_2 : ∃ ty pos af, o8[2]? = some ⟨some 40, .move (.tmp 3), ty, pos, af, none⟩ := ⟨_, _, _, rfl⟩
theorem o8_3 : ∃ ty pos af, o8[3]? = some ⟨some 41, .fieldAddr 29 (.tmp 1) 8, ty, pos, af, none⟩ := ⟨_, _, _, rfl⟩
theorem o8_4 : ∃ ty pos af, o8[4]? = some ⟨some 42, .load 27 (.tmp 41), ty, pos, af, none⟩ := ⟨_, _, _, rfl⟩
theorem o8_5 : ∃ ty pos af, o8[5]? = some ⟨some 43, .move (.tmp 3), ty, pos, af, none⟩ := ⟨_, _, _, rfl⟩
theorem o8_6 : ∃ ty pos af, o8[6]? = some ⟨some 44, .indexAddr 27 (.tmp 42) (.tmp 43), ty, pos, af, none⟩ := ⟨_, _, _, rfl⟩
theorem o8_7 : ∃ ty pos af, o8[7]? = some ⟨some 45, .fieldAddr 52 (.tmp 44) 2, ty, pos, af, none⟩ := ⟨_, _, _, rfl⟩
theorem o8_8 : ∃ ty pos af, o8[8]? = some ⟨some 46, .fieldAddr 50 (.tmp 45) 2, ty, pos, af, none⟩ := ⟨_, _, _, rfl⟩
theorem o8_9 : ∃ ty pos af, o8[9]? = some ⟨some 47, .load 24 (.tmp 46), ty, pos, af, none⟩ := ⟨_, _, _, rfl⟩
theorem o8_10 : ∃ ty pos af, o8[10]? = some ⟨some 48, .call { callee := .value (.func 52), args := #[.tmp 47], argTypes := #[24] }, ty, pos, af, none⟩ := ⟨_, _, _, rfl⟩
theorem o8_11 : ∃ ty pos af, o8[11]? = some ⟨some 49, .indexAddr 27 (.tmp 39) (.tmp 40), ty, pos, af, none⟩ := ⟨_, _, _, rfl⟩
theorem o8_12 : ∃ ty pos af, o8[12]? = some ⟨some 50, .fieldAddr 52 (.tmp 49) 2, ty, pos, af, none⟩ := ⟨_, _, _, rfl⟩
theorem o8_13 : ∃ ty pos af, o8[13]? = some ⟨some 51, .fieldAddr 50 (.tmp 50) 2, ty, pos, af, none⟩ := ⟨_, _, _, rfl⟩
theorem o8_14 : ∃ ty pos af, o8[14]? = some ⟨none, .store 24 (.tmp 51) (.tmp 48), ty, pos, af, none⟩ := ⟨_, _, _, rfl⟩
theorem o8_n : o8.size = 15 := by kernel_rfl
noncomputable def o9 : Array Oper := regOps 9 (bodyOf Try.f30)
theorem o9_0 : ∃ ty pos af, o9[0]? = some ⟨some 52, .binOp .add 3 (.tmp 35) (.const (.int .i64 1)) 3, ty, pos, af, none⟩ := ⟨_, _, _, rfl⟩
theorem o9_1 : ∃ ty pos af, o9[1]? = some ⟨some 35, .move (.tmp 52), ty, pos, af, none⟩ := ⟨_, _, _, rfl⟩
theorem o9_n : o9.size = 2 := by kernel_rfl
noncomputable def o10 : Array Oper := regOps 10 (bodyOf Try.f30)
theorem o10_0 : ∃ ty pos af, o10[0]? = some ⟨some 53, .load 29 (.tmp 1), ty, pos, af, none⟩ := ⟨_, _, _, rfl⟩
theorem o10_1 : ∃ ty pos af, o10[1]? = some ⟨none, .store 29 (.tmp 2) (.tmp 53), ty, pos, af, none⟩ := ⟨_, _, _, rfl⟩
theorem o10_n : o10.size = 2 := by kernel_rfl


theorem rest30 : (cutC 4 (bodyOf Try.f30)).2 = .seq (.region 4 o4 false) (.seq (.seq (.region 5 o5 false) (.block 0 (.loop (.seq (.region 6 o6 false) (.seq (.cond (.tmp 36) .skip (.exit 0)) (.seq (.block 1 (.seq (.region 7 o7 false) (.region 8 o8 true))) (.region 9 o9 false))))))) (.seq (.region 10 o10 false) .ret)) := by kernel_rfl
theorem o8_sel : Region.noSelect o8 = true := by kernel_rfl

/- A store's copy lies in new blocks alone: one round of its loop. -/
/-- The two variables at hand. -/
structure Fr (b1 b2 : Nat) (a : Act) : Prop where
  sz : a.tmps.size = 54
  df : a.defers = []
  p1 : a.tmps[1]? = some (.pointer (some ⟨b1, 0, none⟩))
  p2 : a.tmps[2]? = some (.pointer (some ⟨b2, 0, none⟩))
theorem Fr.put {b1 b2 : Nat} {a : Act} (h : Fr b1 b2 a) {d : Nat} {v : Value} (h1 : d ≠ 1) (h2 : d ≠ 2) : Fr b1 b2 (a.put (some d) v) :=
  ⟨by rw [Act.put_size]; exact h.sz, h.df, by rw [put_other h1]; exact h.p1, by rw [put_other h2]; exact h.p2⟩

section
variable {w0 w w1 : World} {b1 b2 : Nat} {us : List Value} {T1 T2 TS : TypeId} {vs : List Value} {vS : Value} {ds seen : List D} {S4 : Foot} {i : Nat} {xs : List Value} {F : Foot}
theorem round8 {a : Act} {Q : Exit → Act → World → Prop} (hL : Lp w0 b1 b2 us T1 T2 TS vs vS ds seen S4 i xs F w) (hi : i < seen.length) (hF : Fr b1 b2 a) (h3 : a.tmps[3]? = some (.int .i64 (i : Int))) (hQp : ∀ c a d v w, Q (.panic c) (a.put d v) w → Q (.panic c) a w)
    (hQ : ∀ a' w' xs' F', Fr b1 b2 a' → (∀ t, 34 ≤ t → t < 36 → a'.tmps[t]? = a.tmps[t]?) → Lp w0 b1 b2 us T1 T2 TS vs vS ds seen S4 (i + 1) xs' F' w' → Q .normal a' w') : (Code.region 8 o8 true).wp Try.prog Q a w := by
  obtain ⟨g, cap, cur, hvS, hgN, hcur, hcsz, hg1, hg2, hxc⟩ := hL.at hi
  obtain ⟨d, hd⟩ : ∃ d, seen[i]? = some d := ⟨_, List.getElem?_eq_getElem hi⟩
  obtain ⟨x0, x1, x2, x3, al, rfl, _, _, _, _, hal⟩ := seen_cells (hL.ty d (List.mem_of_getElem? hd))
  have hxl : i * 5 + 4 < xs.length := by rw [hL.row.1]; omega
  obtain ⟨va, hva⟩ : ∃ va, xs[i * 5 + 4]? = some va := ⟨_, List.getElem?_eq_getElem hxl⟩
  have hsz := hF.sz
  have hp1 := hF.p1
  refine wp_region_held mix (S := fun w' => w'.cell? ⟨b1, 8, none⟩ = some vS) ?_
  have hLd := hL.drew
  obtain ⟨wd, hwd⟩ : ∃ wd, wd = { w with drawn := w.drawn + 1 } := ⟨_, rfl⟩
  rw [← hwd] at hLd ⊢
  have hcurd : wd.heap[g]? = some (.cells cur TS (0, 0)) := by rw [hwd]; exact hcur
  have hc8 : ∀ w' : World, w'.heap[b1]? = some (.cells us.toArray T1 (0, 0)) → w'.cell? ⟨b1, 8, none⟩ = some vS := fun w' h => by rw [cell_of_row w' b1 8 _ T1 _ h]; simpa using hL.u9
  have hSd := hc8 wd hLd.h1
  clear hL
  rw [o8_n]
  have e0 : (⟨b1, 0, none⟩ : Addr).block = b1 := rfl
  obtain ⟨_, _, _, ho⟩ := o8_0
  refine held_take (v := .pointer (some ⟨b1, 8, none⟩)) ho o8_sel (by kernel_rfl) (by kernel_rfl) hQp (fun w _ => exec_fieldAddr (b := b1) (o := 0) (off := 8) (by kernel_rfl) (eval_tmp hp1)) hSd ?_
  obtain ⟨_, _, _, ho⟩ := o8_1
  refine held_take (v := vS) ho o8_sel (by kernel_rfl) (by kernel_rfl) hQp (fun w hS => exec_load1 (by kernel_rfl) (by kernel_rfl) (eval_tmp (v := .pointer (some ⟨b1, 8, none⟩)) (by simp only [put_get, Act.put_size, hsz, hp1, h3, reduceIte, Nat.reduceEqDiff, Nat.reduceLT])) hS) hSd ?_
  obtain ⟨_, _, _, ho⟩ := o8_2
  refine held_take (v := .int .i64 (i : Int)) ho o8_sel (by kernel_rfl) (by kernel_rfl) hQp (fun w hS => by rw [exec_move, eval_tmp (v := .int .i64 (i : Int)) (by simp [put_get, h3])]) hSd ?_
  obtain ⟨_, _, _, ho⟩ := o8_3
  refine held_take (v := .pointer (some ⟨b1, 8, none⟩)) ho o8_sel (by kernel_rfl) (by kernel_rfl) hQp (fun w _ => exec_fieldAddr (b := b1) (o := 0) (off := 8) (by kernel_rfl) (eval_tmp (by simp only [put_get, Act.put_size, hsz, hp1, h3, reduceIte, Nat.reduceEqDiff, Nat.reduceLT]))) hSd ?_
  obtain ⟨_, _, _, ho⟩ := o8_4
  refine held_take (v := vS) ho o8_sel (by kernel_rfl) (by kernel_rfl) hQp (fun w hS => exec_load1 (by kernel_rfl) (by kernel_rfl) (eval_tmp (v := .pointer (some ⟨b1, 8, none⟩)) (by simp only [put_get, Act.put_size, hsz, hp1, h3, reduceIte, Nat.reduceEqDiff, Nat.reduceLT])) hS) hSd ?_
  obtain ⟨_, _, _, ho⟩ := o8_5
  refine held_take (v := .int .i64 (i : Int)) ho o8_sel (by kernel_rfl) (by kernel_rfl) hQp (fun w hS => by rw [exec_move, eval_tmp (v := .int .i64 (i : Int)) (by simp [put_get, h3])]) hSd ?_
  obtain ⟨_, _, _, ho⟩ := o8_6
  refine held_take (v := .pointer (some ⟨g, i * 5, none⟩)) ho o8_sel (by kernel_rfl) (by kernel_rfl) hQp (fun w hS => exec_indexAddr (sz := 5) (n := seen.length) (cap := cap) (k := .i64) (m := (i : Int)) Try.underlying27 (by kernel_rfl) (eval_tmp (by simp only [put_get, Act.put_size, hsz, hp1, h3, reduceIte, Nat.reduceEqDiff, Nat.reduceLT, hvS])) (eval_tmp (by simp only [put_get, Act.put_size, hsz, hp1, h3, reduceIte, Nat.reduceEqDiff, Nat.reduceLT])) (by omega) (by omega)) hSd ?_
  obtain ⟨_, _, _, ho⟩ := o8_7
  refine held_take (v := .pointer (some ⟨g, i * 5 + 2, none⟩)) ho o8_sel (by kernel_rfl) (by kernel_rfl) hQp (fun w _ => exec_fieldAddr (b := g) (o := i * 5) (off := 2) (by kernel_rfl) (eval_tmp (by simp only [put_get, Act.put_size, hsz, hp1, h3, reduceIte, Nat.reduceEqDiff, Nat.reduceLT]))) hSd ?_
  obtain ⟨_, _, _, ho⟩ := o8_8
  refine held_take (v := .pointer (some ⟨g, i * 5 + 4, none⟩)) ho o8_sel (by kernel_rfl) (by kernel_rfl) hQp (fun w _ => exec_fieldAddr (b := g) (o := i * 5 + 2) (off := 2) (by kernel_rfl) (eval_tmp (by simp only [put_get, Act.put_size, hsz, hp1, h3, reduceIte, Nat.reduceEqDiff, Nat.reduceLT]))) hSd ?_
  obtain ⟨_, _, _, ho⟩ := o8_9
  refine held_val (v := va) ho (by kernel_rfl) (exec_load1 (ad := ⟨g, i * 5 + 4, none⟩) (by kernel_rfl) (by kernel_rfl) (eval_tmp (by simp only [put_get, Act.put_size, hsz, hp1, h3, reduceIte, Nat.reduceEqDiff, Nat.reduceLT])) (by rw [cell_of_row wd g _ cur TS _ hcurd]; exact hxc _ _ hva)) hSd ?_
  obtain ⟨_, _, _, ho⟩ := o8_10
  have hrep : Rep wd S4 va (.list al) := by
    have := hLd.el i _ 4 va (.list al) hd rfl hva
    rwa [if_pos ⟨rfl, Nat.le_refl _⟩] at this
  refine held_call (k := 52) (vs := [va].toArray) ho (by kernel_rfl) (exec_call c52.enter (map1 (eval_tmp (by simp only [put_get, Act.put_size, hsz, hp1, h3, reduceIte, Nat.reduceEqDiff, Nat.reduceLT])))) (clone_calls c52 rfl trivial hLd.lt hrep hal) ?_
  rintro e w1 ⟨v', S', rfl, hb1, hsub, hlt1, hnew1, hown, hblk⟩
  have hL1 := hLd.later hb1
  have hS1 := hc8 w1 hL1.h1
  have hgd : g < wd.heap.size := (Array.getElem?_eq_some_iff.1 hcurd).1
  have hcur1 : w1.heap[g]? = some (.cells cur TS (0, 0)) := by rw [hb1.block g hgd]; exact hcurd
  refine ⟨v', rfl, hS1, ?_⟩
  obtain ⟨_, _, _, ho⟩ := o8_11
  refine held_take (v := .pointer (some ⟨g, i * 5, none⟩)) ho o8_sel (by kernel_rfl) (by kernel_rfl) hQp (fun w hS => exec_indexAddr (sz := 5) (n := seen.length) (cap := cap) (k := .i64) (m := (i : Int)) Try.underlying27 (by kernel_rfl) (eval_tmp (by simp only [put_get, Act.put_size, hsz, hp1, h3, reduceIte, Nat.reduceEqDiff, Nat.reduceLT, hvS])) (eval_tmp (by simp only [put_get, Act.put_size, hsz, hp1, h3, reduceIte, Nat.reduceEqDiff, Nat.reduceLT])) (by omega) (by omega)) hS1 ?_
  obtain ⟨_, _, _, ho⟩ := o8_12
  refine held_take (v := .pointer (some ⟨g, i * 5 + 2, none⟩)) ho o8_sel (by kernel_rfl) (by kernel_rfl) hQp (fun w _ => exec_fieldAddr (b := g) (o := i * 5) (off := 2) (by kernel_rfl) (eval_tmp (by simp only [put_get, Act.put_size, hsz, hp1, h3, reduceIte, Nat.reduceEqDiff, Nat.reduceLT]))) hS1 ?_
  obtain ⟨_, _, _, ho⟩ := o8_13
  refine held_take (v := .pointer (some ⟨g, i * 5 + 4, none⟩)) ho o8_sel (by kernel_rfl) (by kernel_rfl) hQp (fun w _ => exec_fieldAddr (b := g) (o := i * 5 + 2) (off := 2) (by kernel_rfl) (eval_tmp (by simp only [put_get, Act.put_size, hsz, hp1, h3, reduceIte, Nat.reduceEqDiff, Nat.reduceLT]))) hS1 ?_
  obtain ⟨_, _, _, ho⟩ := o8_14
  obtain ⟨A, capv, hvv⟩ : ∃ A c, v' = .slice A al.length c := by
    have := hown.rep.inv_list
    exact this
  obtain ⟨xs', F', hL2⟩ := hLd.step hi hb1 hd (al := al) rfl hown hblk hlt1 hvS hcur1
  refine held_skip ho (by kernel_rfl) (exec_store (vs := [v']) (b := g) (off := i * 5 + 4) (cur := cur) (T := TS) (by kernel_rfl) (eval_tmp (by simp only [put_get, Act.put_size, hsz, hp1, h3, reduceIte, Nat.reduceEqDiff, Nat.reduceLT])) (by rw [eval_tmp (v := v') (by simp only [put_get, Act.put_size, hsz, hp1, h3, reduceIte, Nat.reduceEqDiff, Nat.reduceLT])]; simp [hvv, Value.cells]) hcur1 (by simp only [List.length_cons, List.length_nil]; omega) (by simp [hvv, Value.oneCell'])) (hc8 _ hL2.h1) ?_
  refine wpAnyH_done (by kernel_rfl) ?_ _
  refine hQ _ _ xs' F' ?_ ?_ hL2
  · repeat' apply Fr.put
    all_goals first | exact hF | decide
  · intro t h1 h2
    simp only [put_get]
    repeat rw [if_neg (by omega)]
end

/- A store's copy lies in new blocks alone: its loop, from its beginning to its end. -/
def storeTs : List Ty := storeT.cells

section
variable {w0 w w1 : World} {S0 S5 S' : Foot} {b1 b2 : Nat} {us : List Value} {T1 T2 TS : TypeId} {vs : List Value} {vS : Value} {ds seen : List D} {a : Act}
theorem Lp.start (h : CpAt 1 2 8 storeTs ds 54 w0 S0 S5 b1 b2 us vs T1 T2 a w) (hds : ds[8]? = some (.list seen)) (hw : Below w.heap.size w w1) (hlt : ∀ b o, S' b o → b < w1.heap.size) (hnew : ∀ b o, S' b o → S5 b o ∨ w.heap.size ≤ b)
    (hown : OwnD false w1 0 S' TS seenT vS (.list seen)) (hblk : ∀ b, vS.ownBlock = some b → w.heap.size ≤ b) :
    ∃ xs F, Lp w0 b1 b2 (us.set 8 vS) T1 T2 TS vs vS ds seen (fun b o => S' b o ∧ vS.ownBlock ≠ some b) 0 xs F (w1.setRow b1 (us.set 8 vS).toArray) := by
  have hul : us.length = 9 := h.ul
  have l1 : b1 < w.heap.size := (Array.getElem?_eq_some_iff.1 h.h1).1
  have l2 : b2 < w.heap.size := (Array.getElem?_eq_some_iff.1 h.h2).1
  have hb1 : vS.ownBlock ≠ some b1 := fun e => by have := hblk _ e; omega
  have hb2 : vS.ownBlock ≠ some b2 := fun e => by have := hblk _ e; omega
  have g1 : w1.heap[b1]? = some (.cells us.toArray T1 (0, 0)) := by rw [hw.block _ l1]; exact h.h1
  have g2 : w1.heap[b2]? = some (.cells vs.toArray T2 (0, 0)) := by rw [hw.block _ l2]; exact h.h2
  obtain ⟨w2, hw2⟩ : ∃ w2, w2 = w1.setRow b1 (us.set 8 vS).toArray := ⟨_, rfl⟩
  rw [← hw2]
  have hheap : w2.heap[b1]? = some (.cells (us.set 8 vS).toArray T1 (0, 0)) := by rw [hw2]; exact setRow_heap w1 b1 _ _ T1 _ g1
  have hother : ∀ k, k ≠ b1 → w2.heap[k]? = w1.heap[k]? := fun k hk => by rw [hw2]; exact setRow_other w1 b1 k _ hk
  have hsize : w2.heap.size = w1.heap.size := by rw [hw2]; simp
  have hbel : Below w0.heap.size w0 w2 := by rw [hw2]; exact below_setRow (below_trans h.below hw h.below.size) h.n1
  have hN : w0.heap.size ≤ w.heap.size := h.below.size
  obtain ⟨hhas, hsz, xs, l', hl', hrow, hS, hr⟩ := hown
  injection hl' with hl'; subst hl'
  obtain ⟨_, he0, hlen, hty⟩ := has_list.1 hhas
  injection he0 with he0; subst he0
  have hrow2 : w2.ownsRow w0.heap.size TS 5 vS seen.length xs := by
    refine ⟨hrow.1, ?_⟩
    rcases hrow.2 with h' | ⟨g, cap, cur, e, _, hh, r⟩
    · exact .inl h'
    · have hg : vS.ownBlock = some g := by rw [e]; rfl
      refine .inr ⟨g, cap, cur, e, Nat.le_trans hN (hblk g hg), ?_, r⟩
      rw [hother g (fun e => hb1 (e ▸ hg))]; exact hh
  have hS'1 : ∀ o, ¬ S' b1 o := fun o ho => (hnew b1 o ho).elim (h.x1 o) (fun h' => by omega)
  have hS'2 : ∀ o, ¬ S' b2 o := fun o ho => (hnew b2 o ho).elim (h.x2 o) (fun h' => by omega)
  refine ⟨xs, newF w0 w S5, hbel, h.n1, h.n2, h.ne, hheap, by rw [hother _ h.ne.symm]; exact g2, by simpa using hul, h.vl, hrow2, hb1, hb2, fun b o hb => by rw [hsize]; exact hlt b o hb.1, fun b o hb => ⟨hb.2, ?_, ?_⟩, fun b o hb => ?_, fun j v d hj hv hd => ?_, ?_, hty, fun k d j v c h1 h2 h3 => ?_⟩
  · rintro rfl; exact hS'1 o hb.1
  · rintro rfl; exact hS'2 o hb.1
  · obtain ⟨q1, q2, cur, T, q3⟩ := hb
    have hlt := h.lt b o q1
    have hne1 : b ≠ b1 := by rintro rfl; exact h.x1 o q1
    refine ⟨q2, by rw [hsize]; exact Nat.lt_of_lt_of_le hlt hw.size, hne1, by rintro rfl; exact h.x2 o q1, fun e => by have := hblk _ e; omega, cur, T, ?_⟩
    rw [hother b hne1, hw.block b hlt]; exact q3
  · rw [List.getElem?_set_ne (by omega)] at hv
    refine (h.fresh j v d hj hv hd).keep (fun _ _ h => h) (fun b o hb => ?_)
    have hlt := h.lt b o hb.1
    have hne1 : b ≠ b1 := by rintro rfl; exact h.x1 o hb.1
    rw [cell_heap (hother b hne1), cell_heap (hw.block b hlt)]
  · rw [List.getElem?_set_self (by omega)]
  · have hr1 := hr k d j v c h1 h2 h3
    obtain ⟨x0, x1, x2, x3, al, rfl, t0, t1, t2, t3, hal⟩ := seen_cells (hty d (List.mem_of_getElem? h1))
    have hj5 : j < 5 := (List.getElem?_eq_some_iff.1 h2).1
    have hkl : k < seen.length := (List.getElem?_eq_some_iff.1 h1).1
    by_cases hj4 : j = 4
    · subst hj4
      rw [if_pos ⟨rfl, Nat.zero_le _⟩]
      have hc : c = .list al := by simpa [D.cells] using h2.symm
      subst hc
      obtain ⟨al', ha', _, hall⟩ := has_list.1 hal
      injection ha' with ha'; subst ha'
      rcases hrow.2 with ⟨_, hn⟩ | ⟨g, cap, cur, e, _, hh, _, _, _, htake⟩
      · omega
      · have hg : vS.ownBlock = some g := by rw [e]; rfl
        have hcell := hrow.cells hg
        have h7 := rep_off (b0 := g) (n := seen.length) (xs := xs) (by rfl) (by decide) hall hr1 (fun o ho => ((hS g hg o).1 ho).2) hrow.1 (fun o v hv => by
          have := hcell o v hv
          rwa [addr_add, Nat.zero_add] at this) (fun k' hk' => by
          have hd' : seen[k']? = some (seen[k']'hk') := List.getElem?_eq_getElem hk'
          obtain ⟨y0, y1, y2, y3, bl, he, _⟩ := seen_cells (hty _ (List.mem_of_getElem? hd'))
          have hxl : k' * 5 + 4 < xs.length := by rw [hrow.1]; show k' * 5 + 4 < seen.length * 5; omega
          have h8 := hr k' _ 4 _ (.list bl) hd' (by rw [he]; rfl) (List.getElem?_eq_getElem hxl)
          obtain ⟨A, c', hv'⟩ := h8.inv_list
          exact ⟨A, bl.length, c', by rw [← hv']; exact List.getElem?_eq_getElem hxl⟩)
        refine h7.keep (fun b o hb => ⟨hb.1, by rw [hg]; intro e; injection e with e; exact hb.2 e.symm⟩) (fun b o hb => cell_heap (hother b ?_))
        rintro rfl; exact hS'1 o hb.1
    · rw [if_neg (by omega)]
      obtain rfl | rfl | rfl | rfl : j = 0 ∨ j = 1 ∨ j = 2 ∨ j = 3 := by omega
      · simp [D.cells] at h2; subst h2; exact rep_bare (t := .int .i64) rfl t0 hr1
      · simp [D.cells] at h2; subst h2; exact rep_bare (t := .int .i64) rfl t1 hr1
      · simp [D.cells] at h2; subst h2; exact rep_bare (t := .int .i64) rfl t2 hr1
      · simp [D.cells] at h2; subst h2; exact rep_bare (t := .int .i64) rfl t3 hr1

/-- Behind the last round. -/
theorem Lp.done {S4 : Foot} {xs : List Value} {F : Foot} (hL : Lp w0 b1 b2 us T1 T2 TS vs vS ds seen S4 seen.length xs F w) (hds : ds[8]? = some (.list seen)) (hdl : ds.length = 9) :
    ∃ F' : Foot, (∀ b o, F' b o → w0.heap.size ≤ b ∧ b < w.heap.size ∧ b ≠ b1 ∧ b ≠ b2 ∧ ∃ cur T, w.heap[b]? = some (.cells cur T (0, 0))) ∧ Rep w F' (.agg us.toArray) (.agg ds) := by
  refine ⟨fun b o => F b o ∨ vS.ownBlock = some b ∧ o < xs.length, fun b o hb => ?_, .agg us ds (by rw [hL.ul, hdl]) fun j v d hv hd => ?_⟩
  · rcases hb with hb | ⟨hb, _⟩
    · obtain ⟨q1, q2, q3, q4, _, q5⟩ := hL.fn b o hb
      exact ⟨q1, q2, q3, q4, q5⟩
    · rcases hL.row.2 with ⟨e, _⟩ | ⟨g, cap, cur, e, hg, hh, _⟩
      · rw [e] at hb; cases hb
      · rw [e] at hb
        simp only [Value.ownBlock, Option.some.injEq] at hb
        subst hb
        exact ⟨hg, (Array.getElem?_eq_some_iff.1 hh).1, fun e' => hL.ne1 (by rw [e]; show some g = _; rw [e']), fun e' => hL.ne2 (by rw [e]; show some g = _; rw [e']), cur, TS, hh⟩
  · have hjl : j < 9 := by rw [← hL.ul]; exact (List.getElem?_eq_some_iff.1 hv).1
    by_cases hj : j = 8
    · subst hj
      rw [hL.u9] at hv; injection hv with hv; subst hv
      rw [hds] at hd; injection hd with hd; subst hd
      rcases hL.row.2 with ⟨e, hn⟩ | ⟨g, cap, cur, e, hg, hh, hcap, _, _, htake⟩
      · obtain rfl : seen = [] := List.eq_nil_of_length_eq_zero hn
        rw [e]; exact .nil none 0
      · have hgb : vS.ownBlock = some g := by rw [e]; rfl
        have hcell := hL.row.cells hgb
        rw [e]
        by_cases hne : seen = []
        · subst hne; exact .nil _ _
        · refine .list g 0 cap 5 xs seen (by omega) hne hcap hL.row.1 (fun i hi => ?_) (fun i u hu => ?_) (fun i x hx => ?_) (fun i x j u c hx hj hu => ?_)
          · rw [Nat.zero_add]; exact .inr ⟨by rw [← e]; exact hgb, hi⟩
          · have := hcell i u hu
            rw [addr_add, Nat.zero_add] at this
            rw [Nat.zero_add]; exact this
          · obtain ⟨_, _, _, _, _, rfl, _⟩ := seen_cells (hL.ty x (List.mem_of_getElem? hx)); rfl
          · have h1 := hL.el i x j u c hx hj hu
            have hil : i < seen.length := (List.getElem?_eq_some_iff.1 hx).1
            rw [if_neg (by omega)] at h1
            exact h1.keep (fun b o hb => .inl hb) (fun _ _ _ => rfl)
    · exact (hL.u8 j v d (by omega) hv hd).keep (fun b o hb => .inl hb) (fun _ _ _ => rfl)
end

/- A store's copy lies in new blocks alone: the function's contract. -/
def ix (a : Act) : Nat := match (a.tmps[35]? : Option Value) with
  | some (Value.int _ m) => m.toNat
  | _ => 0
def panics (Q : Exit → Act → World → Prop) : Prop := ∀ c a d v w, Q (.panic c) (a.put d v) w → Q (.panic c) a w

section
variable {w0 w : World} {b1 b2 : Nat} {us : List Value} {T1 T2 TS : TypeId} {vs : List Value} {vS : Value} {ds seen : List D} {S4 : Foot} {Q : Exit → Act → World → Prop}
theorem loop30 {a : Act} {xs : List Value} {F : Foot} (hL : Lp w0 b1 b2 us T1 T2 TS vs vS ds seen S4 0 xs F w) (hF : Fr b1 b2 a) (h34 : a.tmps[34]? = some (.int .i64 (seen.length : Int))) (h35 : a.tmps[35]? = some (.int .i64 0)) (hmax : seen.length ≤ maxLen) (hQp : panics Q)
    (hQ : ∀ a' w' xs' F', Fr b1 b2 a' → Lp w0 b1 b2 us T1 T2 TS vs vS ds seen S4 seen.length xs' F' w' → Q .normal a' w') :
    (Code.block 0 (.loop (.seq (.region 6 o6 false) (.seq (.cond (.tmp 36) .skip (.exit 0)) (.seq (.block 1 (.seq (.region 7 o7 false) (.region 8 o8 true))) (.region 9 o9 false)))))).wp Try.prog Q a w := by
  refine wp_block ?_
  refine wp_loop (fun a w => ∃ i xs F, Lp w0 b1 b2 us T1 T2 TS vs vS ds seen S4 i xs F w ∧ Fr b1 b2 a ∧ a.tmps[34]? = some (.int .i64 (seen.length : Int)) ∧ a.tmps[35]? = some (.int .i64 (i : Int)) ∧ i ≤ seen.length) (fun a _ => seen.length - ix a) ⟨0, xs, F, hL, hF, h34, h35, Nat.zero_le _⟩ ?_
  rintro a w ⟨i, xs, F, hL, hF, h34, h35, hle⟩
  have hix : ix a = i := by unfold ix; rw [h35]; rfl
  refine wp_seq (wp_region ?_)
  rw [o6_n]
  show wpOps _ _ _ [0] a w
  obtain ⟨_, _, _, ho⟩ := o6_0
  refine wpOps_val ho (exec_lss (eval_tmp h35) (eval_tmp h34)) ?_
  obtain ⟨a1, ha1⟩ : ∃ a1, a1 = a.put (some 36) (.bool (decide ((i : Int) < seen.length))) := ⟨_, rfl⟩
  rw [← ha1]
  have f1 : Fr b1 b2 a1 := by rw [ha1]; exact hF.put (by decide) (by decide)
  have t36 : a1.tmps[36]? = some (.bool (decide ((i : Int) < seen.length))) := by rw [ha1]; exact put_same hF.sz (by decide)
  have t34 : a1.tmps[34]? = some (.int .i64 (seen.length : Int)) := by rw [ha1, put_other (by decide)]; exact h34
  have t35 : a1.tmps[35]? = some (.int .i64 (i : Int)) := by rw [ha1, put_other (by decide)]; exact h35
  show ((Code.cond (.tmp 36) .skip (.exit 0)).seq _).wp _ _ a1 w
  refine wp_seq (wp_cond (eval_tmp t36) ?_)
  by_cases hlt : i < seen.length
  · rw [decide_eq_true (by omega), if_pos rfl]
    refine wp_skip ?_
    show (Code.seq _ _).wp _ _ a1 w
    refine wp_seq (wp_block (wp_seq (wp_region ?_)))
    rw [o7_n]
    show wpOps _ _ _ [0, 1] a1 w
    obtain ⟨_, _, _, ho⟩ := o7_0
    refine wpOps_val ho exec_move ?_
    rw [eval_tmp t35]
    obtain ⟨_, _, _, ho⟩ := o7_1
    refine wpOps_val ho exec_assign ?_
    rw [eval_tmp (v := .int .i64 (i : Int)) (put_same f1.sz (by decide))]
    obtain ⟨a2, ha2⟩ : ∃ a2, a2 = (a1.put (some 37) (.int .i64 (i : Int))).put (some 3) (.int .i64 (i : Int)) := ⟨_, rfl⟩
    rw [← ha2]
    have f2 : Fr b1 b2 a2 := by rw [ha2]; exact (f1.put (by decide) (by decide)).put (by decide) (by decide)
    have u3 : a2.tmps[3]? = some (.int .i64 (i : Int)) := by rw [ha2]; exact put_same (f1.put (d := 37) (by decide) (by decide)).sz (by decide)
    have u34 : a2.tmps[34]? = some (.int .i64 (seen.length : Int)) := by rw [ha2, put_other (by decide), put_other (by decide)]; exact t34
    have u35 : a2.tmps[35]? = some (.int .i64 (i : Int)) := by rw [ha2, put_other (by decide), put_other (by decide)]; exact t35
    show (Code.region 8 o8 true).wp _ _ a2 w
    refine round8 hL hlt f2 u3 (fun c a d v w h => hQp c a d v w h) ?_
    intro a3 w3 xs3 F3 f3 hk hL3
    have v34 : a3.tmps[34]? = some (.int .i64 (seen.length : Int)) := by rw [hk 34 (by decide) (by decide)]; exact u34
    have v35 : a3.tmps[35]? = some (.int .i64 (i : Int)) := by rw [hk 35 (by decide) (by decide)]; exact u35
    show (Code.region 9 o9 false).wp _ _ a3 w3
    refine wp_region ?_
    rw [o9_n]
    show wpOps _ _ _ [0, 1] a3 w3
    obtain ⟨_, _, _, ho⟩ := o9_0
    refine wpOps_val ho (exec_add (eval_tmp v35) (by rfl)) ?_
    have hw : IntKind.i64.wrap ((i : Int) + 1) = ((i + 1 : Nat) : Int) := next64 hmax hlt
    rw [hw]
    obtain ⟨_, _, _, ho⟩ := o9_1
    refine wpOps_val ho exec_move ?_
    rw [eval_tmp (v := .int .i64 ((i + 1 : Nat) : Int)) (put_same f3.sz (by decide))]
    have f4 := f3.put (d := 52) (v := .int .i64 ((i + 1 : Nat) : Int)) (by decide) (by decide)
    have q35 : ((a3.put (some 52) (.int .i64 ((i + 1 : Nat) : Int))).put (some 35) (.int .i64 ((i + 1 : Nat) : Int))).tmps[35]? = some (.int .i64 ((i + 1 : Nat) : Int)) := put_same f4.sz (by decide)
    refine ⟨⟨i + 1, xs3, F3, hL3, f4.put (by decide) (by decide), ?_, q35, hlt⟩, ?_⟩
    · rw [put_other (by decide), put_other (by decide)]; exact v34
    · rw [hix]
      have : ix ((a3.put (some 52) (.int .i64 ((i + 1 : Nat) : Int))).put (some 35) (.int .i64 ((i + 1 : Nat) : Int))) = i + 1 := by unfold ix; rw [q35]; rfl
      rw [this]; omega
  · rw [decide_eq_false (by omega), if_neg (by decide)]
    refine wp_exit ?_
    obtain rfl : i = seen.length := by omega
    exact hQ a1 w xs F f1 hL
end

theorem store_ds {ds : List D} (h : HasL (.ofL storeTs) ds) : ∃ seen, ds[8]? = some (.list seen) ∧ Has (.list seenT) (.list seen) ∧ ds.length = 9 := by
  have h8 := hasL_get h 8 (.list seenT) rfl
  obtain ⟨x, hx, hh⟩ := h8
  obtain ⟨l, rfl, hr⟩ := has_list.1 hh
  exact ⟨l, hx, has_list.2 ⟨l, rfl, hr⟩, by have := hasL_len h; rw [this]; rfl⟩

section
variable {w0 w : World} {S0 S5 : Foot} {b1 b2 : Nat} {us : List Value} {T1 T2 : TypeId} {vs : List Value} {ds : List D} {a : Act} {R : Ending → World → Prop}
theorem rest_ok (h : CpAt 1 2 8 storeTs ds 54 w0 S0 S5 b1 b2 us vs T1 T2 a w)
    (hR : ∀ v w' F, Below w0.heap.size w0 w' → (∀ b o, F b o → w0.heap.size ≤ b ∧ b < w'.heap.size ∧ ∃ cur T, w'.heap[b]? = some (.cells cur T (0, 0))) → Rep w' F v (.agg ds) → R (.returned v) w') :
    (cutC 4 (bodyOf Try.f30)).2.wp Try.prog (bodyPost Try.prog Try.f30 R) a w := by
  obtain ⟨seen, hds, hseen, hdl⟩ := store_ds h.has
  have hul : us.length = 9 := h.ul
  have hvl : vs.length = 9 := h.vl
  obtain ⟨vO, hvO⟩ : ∃ vO, us[8]? = some vO := ⟨_, List.getElem?_eq_getElem (by omega)⟩
  have hF : Fr b1 b2 a := ⟨h.sz, h.defers, h.p1, h.p2⟩
  have hsz := hF.sz
  have hp1 := hF.p1
  have hc8 : w.cell? ⟨b1, 8, none⟩ = some vO := by rw [cell_of_row w b1 8 _ T1 _ h.h1]; simpa using hvO
  have hmax : seen.length ≤ maxLen := by
    obtain ⟨l, hl, hlen, _⟩ := has_list.1 hseen
    injection hl with hl; subst hl
    exact hlen.1
  rw [rest30]
  refine wp_seq (wp_region ?_)
  rw [o4_n]
  show wpOps _ _ _ [0, 1, 2, 3, 4] a w
  obtain ⟨_, _, _, ho⟩ := o4_0
  refine wpOps_val (v := .pointer (some ⟨b1, 8, none⟩)) ho (exec_fieldAddr (b := b1) (o := 0) (off := 8) (by kernel_rfl) (eval_tmp hp1)) ?_
  obtain ⟨_, _, _, ho⟩ := o4_1
  refine wpOps_val (v := vO) ho (exec_load1 (ad := ⟨b1, 8, none⟩) (by kernel_rfl) (by kernel_rfl) (eval_tmp (by simp only [put_get, Act.put_size, hsz, hp1, reduceIte, Nat.reduceEqDiff, Nat.reduceLT])) hc8) ?_
  obtain ⟨_, _, _, ho⟩ := o4_2
  refine wpOps_call (k := 55) (vs := [vO].toArray) ho (exec_call c55.enter (map1 (eval_tmp (by simp only [put_get, Act.put_size, hsz, hp1, reduceIte, Nat.reduceEqDiff, Nat.reduceLT])))) (clone_calls c55 rfl trivial h.lt (h.rep 8 vO _ hvO hds) hseen) ?_
  rintro e w1 ⟨vS, S', rfl, hb1, hsub, hlt1, hnew1, hown, hblk⟩
  refine ⟨vS, rfl, ?_⟩
  obtain ⟨_, _, _, ho⟩ := o4_3
  refine wpOps_val (v := .pointer (some ⟨b1, 8, none⟩)) ho (exec_fieldAddr (b := b1) (o := 0) (off := 8) (by kernel_rfl) (eval_tmp (by simp only [put_get, Act.put_size, hsz, hp1, reduceIte, Nat.reduceEqDiff, Nat.reduceLT]))) ?_
  obtain ⟨_, _, _, ho⟩ := o4_4
  obtain ⟨A, capv, hvv⟩ : ∃ A c, vS = .slice A seen.length c := hown.rep.inv_list
  have l1 : b1 < w.heap.size := (Array.getElem?_eq_some_iff.1 h.h1).1
  have g1 : w1.heap[b1]? = some (.cells us.toArray T1 (0, 0)) := by rw [hb1.block _ l1]; exact h.h1
  refine wpOps_skip ho (exec_store (vs := [vS]) (b := b1) (off := 8) (cur := us.toArray) (T := T1) (by kernel_rfl) (eval_tmp (by simp only [put_get, Act.put_size, hsz, hp1, reduceIte, Nat.reduceEqDiff, Nat.reduceLT]))
    (by rw [eval_tmp (v := vS) (by simp only [put_get, Act.put_size, hsz, hp1, reduceIte, Nat.reduceEqDiff, Nat.reduceLT])]; simp [hvv, Value.cells]) g1 (by simp [hul]) (by simp [hvv, Value.oneCell'])) ?_
  have hsp : (us.toArray.toList.take 8 ++ [vS] ++ us.toArray.toList.drop (8 + [vS].length)) = us.set 8 vS := set_splice (l := us) (off := 8) (by omega)
  rw [hsp]
  obtain ⟨xs, F, hL⟩ := Lp.start h hds hb1 hlt1 hnew1 hown hblk
  obtain ⟨w2, hw2⟩ : ∃ w2, w2 = w1.setRow b1 (us.set 8 vS).toArray := ⟨_, rfl⟩
  rw [← hw2] at hL ⊢
  obtain ⟨a2, ha2⟩ : ∃ a2, a2 = (((a.put (some 28) (.pointer (some ⟨b1, 8, none⟩))).put (some 29) vO).put (some 30) vS).put (some 31) (.pointer (some ⟨b1, 8, none⟩)) := ⟨_, rfl⟩
  rw [← ha2]
  have hF2 : Fr b1 b2 a2 := by
    rw [ha2]
    exact (((hF.put (by decide) (by decide)).put (by decide) (by decide)).put (by decide) (by decide)).put (by decide) (by decide)
  clear ha2 hF hsz hp1
  have hsz := hF2.sz
  have hp1 := hF2.p1
  show ((Code.seq _ _).seq _).wp _ _ a2 w2
  refine wp_seq (wp_seq (wp_region ?_))
  rw [o5_n]
  show wpOps _ _ _ [0, 1, 2, 3] a2 w2
  have hc82 : w2.cell? ⟨b1, 8, none⟩ = some vS := by rw [cell_of_row w2 b1 8 _ T1 _ hL.h1]; simpa using hL.u9
  obtain ⟨_, _, _, ho⟩ := o5_0
  refine wpOps_val (v := .pointer (some ⟨b1, 8, none⟩)) ho (exec_fieldAddr (b := b1) (o := 0) (off := 8) (by kernel_rfl) (eval_tmp hp1)) ?_
  obtain ⟨_, _, _, ho⟩ := o5_1
  refine wpOps_val (v := vS) ho (exec_load1 (ad := ⟨b1, 8, none⟩) (by kernel_rfl) (by kernel_rfl) (eval_tmp (by simp only [put_get, Act.put_size, hsz, hp1, reduceIte, Nat.reduceEqDiff, Nat.reduceLT])) hc82) ?_
  obtain ⟨_, _, _, ho⟩ := o5_2
  refine wpOps_val (v := .int .i64 (seen.length : Int)) ho (exec_len (A := A) (n := seen.length) (c := capv) Try.underlying27 (eval_tmp (by simp only [put_get, Act.put_size, hsz, hp1, reduceIte, Nat.reduceEqDiff, Nat.reduceLT, hvv]))) ?_
  obtain ⟨_, _, _, ho⟩ := o5_3
  refine wpOps_val ho exec_move ?_
  show (Code.block 0 _).wp _ _ _ w2
  refine loop30 hL ((((hF2.put (by decide) (by decide)).put (by decide) (by decide)).put (by decide) (by decide)).put (by decide) (by decide)) (by simp only [put_get, Act.put_size, hsz, reduceIte, Nat.reduceEqDiff, Nat.reduceLT]) (by simp only [put_get, Act.put_size, hsz, reduceIte, Nat.reduceEqDiff, Nat.reduceLT]; rfl) hmax (fun _ _ d _ _ h => by cases d <;> exact h) ?_
  intro a3 w3 xs3 F3 hF3 hL3
  obtain ⟨F4, hF4, hrep⟩ := hL3.done hds hdl
  show ((Code.region 10 o10 false).seq _).wp _ _ a3 w3
  refine wp_seq (wp_region ?_)
  rw [o10_n]
  show wpOps _ _ _ [0, 1] a3 w3
  have hul3 : (us.set 8 vS).length = 9 := by simpa using hul
  obtain ⟨_, _, _, ho⟩ := o10_0
  refine wpOps_val (v := .agg (us.set 8 vS).toArray) ho (exec_loadN (n := 9) (b := b1) (off := 0) (by kernel_rfl) (by kernel_rfl) (eval_tmp hF3.p1) hul3 (fun j v hv => by rw [Nat.zero_add, cell_of_row w3 b1 j _ T1 _ hL3.h1]; simpa using hv)) ?_
  obtain ⟨_, _, _, ho⟩ := o10_1
  refine wpOps_skip ho (exec_store (vs := us.set 8 vS) (b := b2) (off := 0) (cur := vs.toArray) (T := T2) (by rw [hul3]; kernel_rfl) (eval_tmp (by rw [put_other (by decide)]; exact hF3.p2)) (by rw [eval_tmp (v := .agg (us.set 8 vS).toArray) (put_same hF3.sz (by decide))]; rfl) hL3.h2 (by rw [hul3]; simp [hvl]) (fun v hv => ?_)) ?_
  · obtain ⟨j, hj⟩ := List.getElem?_of_mem hv
    have hjl : j < 9 := by rw [← hul3]; exact (List.getElem?_eq_some_iff.1 hj).1
    have hd : ds[j]? = some (ds[j]'(by omega)) := List.getElem?_eq_getElem _
    obtain ⟨cs, hcs, _, hcr⟩ := hrep.inv_agg
    have hcs' : us.set 8 vS = cs := by injection hcs with hcs; simpa using hcs
    have hty := hasL_get h.has j (storeTs[j]'hjl) (by rw [Ty.toL_ofL]; exact List.getElem?_eq_getElem hjl)
    obtain ⟨x, hx, hxh⟩ := hty
    have hxd := hd
    rw [hx] at hxd; injection hxd with hxd
    exact (hcr j v x (hcs' ▸ hj) hx).oneCell hxh (by
      have : ∀ t ∈ storeTs, t.scalar = true := by decide
      exact this _ (List.getElem_mem hjl))
  · have hsp3 : (vs.toArray.toList.take 0 ++ us.set 8 vS ++ vs.toArray.toList.drop (0 + (us.set 8 vS).length)) = us.set 8 vS := by
      rw [hul3]; simp [hvl]
    rw [hsp3]
    obtain ⟨w4, hw4⟩ : ∃ w4, w4 = w3.setRow b2 (us.set 8 vS).toArray := ⟨_, rfl⟩
    rw [← hw4]
    have hheap : w4.heap[b2]? = some (.cells (us.set 8 vS).toArray T2 (0, 0)) := by rw [hw4]; exact setRow_heap w3 b2 _ _ T2 _ hL3.h2
    have hother : ∀ k, k ≠ b2 → w4.heap[k]? = w3.heap[k]? := fun k hk => by rw [hw4]; exact setRow_other w3 b2 k _ hk
    have hsize : w4.heap.size = w3.heap.size := by rw [hw4]; simp
    have hbel : Below w0.heap.size w0 w4 := by rw [hw4]; exact below_setRow hL3.below h.n2
    refine wp_ret ?_
    refine ⟨hF3.df, .agg (us.set 8 vS).toArray, ?_, hR _ w4 F4 hbel (fun b o hb => ?_) (hrep.keep (fun _ _ h => h) (fun b o hb => cell_heap (hother b (hF4 b o hb).2.2.2.1)))⟩
    · refine run_results (vs := [.agg (us.set 8 vS).toArray]) ?_
      have h2 : (a3.put (some 53) (.agg (us.set 8 vS).toArray)).tmps[2]? = some (.pointer (some ⟨b2, 0, none⟩)) := by rw [put_other (by decide)]; exact hF3.p2
      have hr : (readRes (a3.put (some 53) (.agg (us.set 8 vS).toArray)) (.cell 2 29)).run Try.prog w4 = .ok (.agg (us.set 8 vS).toArray) w4 := by
        have h3 := run_load_cells (P := Try.prog) (w := w4) (t := 29) (n := 9) (by kernel_rfl) (by kernel_rfl) (b := b2) (off := 0) hul3 (fun j v hv => by rw [Nat.zero_add, cell_of_row w4 b2 j _ T2 _ hheap]; simpa using hv)
        simpa [readRes, h2, Instr.loadAt, Instr.sureAddr, asAddr] using h3
      show ([ResultVar.cell 2 29].mapM (m := Sem) _).run _ _ = _
      simp [hr]
    · obtain ⟨q1, q2, q3, q4, cur, T, q5⟩ := hF4 b o hb
      exact ⟨q1, by rw [hsize]; exact q2, cur, T, by rw [hother b q4]; exact q5⟩
end

def vc30A : VC :=
  .call 5 50 (.cons (.un (.cell 2) (.var 0)) (.nil)) [] <|
  .call 8 50 (.cons (.un (.cell 3) (.var 0)) (.nil)) [] <|
  .call 15 51 (.cons (.un (.cell 4) (.var 0)) (.nil)) [] <|
  .call 18 52 (.cons (.un (.cell 5) (.var 0)) (.nil)) [] <|
  .call 25 53 (.cons (.un (.cell 6) (.var 0)) (.nil)) [] <|
  .call 28 54 (.cons (.un (.cell 7) (.var 0)) (.nil)) [] <|
  .ret (.cons (.un (.cell 0) (.var 0)) (.cons (.un (.cell 1) (.var 0)) (.cons (.var 5) (.cons (.var 8) (.cons (.var 15) (.cons (.var 18) (.cons (.var 25) (.cons (.var 28) (.cons (.un (.cell 8) (.var 0)) (.nil))))))))))
/-- The store's copy: the same, in new blocks alone. -/
theorem c30F : FreshFn Try.prog 30 [storeT] storeT (fun _ => True) (fun ds => ds.getD 0 .top) where
  enter args w := by
    unfold callFunc
    have h1 := body_cut (fn := Try.f30) (by kernel_rfl) 4
    have h2 : Try.f30.name ≠ "runtime.NumGoroutine" := by decide
    simp [Try.func30, h1, h2]
  calls w S vs ds hSlt hlen hrep hty hpre := by
    obtain ⟨d0, _, rfl, hd0, rfl⟩ := hty
    obtain ⟨s, rfl, hs⟩ := AStore.cases hd0
    have hv : vc30A.holds phi pre (fun d => d = .list s.enc.toL) (fun i => [s.enc].getD i .top) [] := by
      have hJ : ∀ l, phi 50 [l] = l := fun _ => rfl
      have h51 : ∀ l, phi 51 [l] = l := fun _ => rfl
      have h52 : ∀ l, phi 52 [l] = l := fun _ => rfl
      have h53 : ∀ l, phi 53 [l] = l := fun _ => rfl
      have h54 : ∀ l, phi 54 [l] = l := fun _ => rfl
      simp [vc30A, vh_call, vh_ret, den, U.den, upd, condB, pre, toL_list, AStore.toL, hJ, h51, h52, h53, h54]
    refine calls_cut (cs := ⟨tb50, [], 1⟩) (anns := []) (fr := True) (ps := [storeT]) (m := 4) (k := fun σ _ _ => cpEnd 1 2 8 storeTs σ) (v := vc30A) Try.func30 (by kernel_rfl) mix con50 (fun _ => rfl) (by decide) (by kernel_rfl) hv hSlt hlen hrep (has_cons.2 ⟨_, _, rfl, hd0, has_nil.2 rfl⟩) (Nat.le_of_ble_eq_true (by kernel_rfl)) ?_
    intro σ' p' d' ρ' stk' a w' G' hk hsim
    obtain ⟨b1, b2, us, vs', T1, T2, hcp⟩ := cpEnd_ok hk hsim
    refine rest_ok hcp ?_
    intro v w2 F h1 h2 h3
    exact ⟨v, F, rfl, h1, h2, h3, hd0⟩

/- The statement on copies: what its loops may write. -/
noncomputable def body6 : Code := bodyOf Try.f6
noncomputable def rest6a : Code := (cutC 2 body6).2
noncomputable def rest6b : Code := (cutC 3 rest6a).2
def lpEnd (σ : St) : VC := match σ.tm 1, σ.tm 3 with
  | some ([], .one (.adr 1 0)), some ([], .one (.adr 2 0)) => .ret (.kbool true)
  | _, _ => .stuck 45
def lwEnd (σ : St) : VC :=
  match σ.tm 1, σ.tm 3 with
  | some ([], .one (.adr i 0)), some ([], .one (.adr j 0)) =>
    match σ.hp i, σ.hp j with
    | some (false, cs), some (false, cs3) =>
      match asDatas cs, asDatas cs3 with
      | some (es, ts), some (es3, ts3) => if i ≠ j ∧ ts = storeTs ∧ ts3 = storeTs then .ret (.cons (.ofL es) (.cons (.ofL es3) .nil)) else .stuck 41
      | _, _ => .stuck 42
    | _, _ => .stuck 43
  | _, _ => .stuck 44
def wl6 : FTbl := [(32, ([storeT, .int .i64], storeT))]
def an6 : List (Nat × Ann) := [(7, { boxes := [(4, [])] }), (11, { boxes := [(4, [])] }), (14, { boxes := [(4, [])], own := [(30, 0)], drop := [30] }), (18, { boxes := [(4, [])], own := [(30, 0)], drop := [30] }), (21, { boxes := [(4, [])], own := [(30, 0), (59, 0)], drop := [30, 59] })]
def st6 : St := ⟨fun t => if t = 4 then some ([], .one (.adr 0 0)) else if t = 1 then some ([], .one (.adr 1 0)) else if t = 3 then some ([], .one (.adr 2 0)) else none, fun i => if i = 0 then some (false, ((cellsE (.var 0) 0 storeTs).map fun y => .dat y.1 y.2)) else none, fun _ => none⟩
def vc6A : VC :=
  .call 4 15 (.cons (.un (.agg) (.cons (.un (.cell 0) (.var 0)) (.cons (.un (.cell 1) (.var 0)) (.cons (.un (.cell 2) (.var 0)) (.cons (.un (.cell 3) (.var 0)) (.cons (.un (.cell 4) (.var 0)) (.cons (.un (.cell 5) (.var 0)) (.cons (.un (.cell 6) (.var 0)) (.cons (.un (.cell 7) (.var 0)) (.cons (.un (.cell 8) (.var 0)) (.nil))))))))))) (.nil)) [] <|
  .ret (.cons (.cons (.un (.cell 0) (.var 0)) (.cons (.un (.cell 1) (.var 0)) (.cons (.un (.cell 2) (.var 0)) (.cons (.un (.cell 3) (.var 0)) (.cons (.un (.cell 4) (.var 0)) (.cons (.un (.cell 5) (.var 0)) (.cons (.un (.cell 6) (.var 0)) (.cons (.un (.cell 7) (.var 0)) (.cons (.un (.cell 8) (.var 0)) (.nil)))))))))) (.cons (.cons (.un (.cell 0) (.var 4)) (.cons (.un (.cell 1) (.var 4)) (.cons (.un (.cell 2) (.var 4)) (.cons (.un (.cell 3) (.var 4)) (.cons (.un (.cell 4) (.var 4)) (.cons (.un (.cell 5) (.var 4)) (.cons (.un (.cell 6) (.var 4)) (.cons (.un (.cell 7) (.var 4)) (.cons (.un (.cell 8) (.var 4)) (.nil)))))))))) (.nil)))
def vc6B : VC :=
  .loop 4 [.kint .i64 (0), .un (.cell 0) (.var 0), .un (.cell 1) (.var 0), .un (.cell 2) (.var 0), .un (.cell 3) (.var 0), .un (.cell 4) (.var 0), .un (.cell 5) (.var 0), .un (.cell 6) (.var 0), .un (.cell 7) (.var 0), .un (.cell 8) (.var 0)] [.int .i64, .int .i64, .int .i64, .list (.agg (.cons (.int .i64) (.cons (.int .i64) (.cons (.int .i64) (.cons (.int .i64) (.cons (.list (.agg (.cons (.int .i64) (.cons (.int .i64) (.cons (.int .i64) (.nil)))))) (.cons (.int .i64) (.cons (.bool) (.nil))))))))), .list (.agg (.cons (.int .i64) (.cons (.int .i64) (.cons (.int .i64) (.cons (.int .i64) (.cons (.list (.agg (.cons (.int .i64) (.cons (.int .i64) (.cons (.int .i64) (.nil)))))) (.cons (.int .i64) (.cons (.bool) (.nil))))))))), .list (.agg (.cons (.int .i64) (.cons (.int .i64) (.cons (.int .i64) (.cons (.bool) (.cons (.bool) (.cons (.int .i64) (.cons (.int .i64) (.cons (.int .i64) (.nil)))))))))), .list (.agg (.cons (.int .i64) (.cons (.int .i64) (.cons (.int .i64) (.cons (.int .i64) (.cons (.int .i64) (.cons (.int .i64) (.cons (.int .i64) (.cons (.int .i64) (.cons (.int .i64) (.cons (.bool) (.cons (.int .i64) (.nil))))))))))))), .list (.agg (.cons (.int .i64) (.cons (.int .i64) (.cons (.int .i64) (.cons (.int .i64) (.nil)))))), .list (.agg (.cons (.int .i64) (.cons (.int .i64) (.cons (.int .i64) (.cons (.int .i64) (.nil)))))), .list (.agg (.cons (.int .i64) (.cons (.int .i64) (.cons (.int .i64) (.cons (.int .i64) (.cons (.list (.agg (.cons (.int .i64) (.cons (.int .i64) (.cons (.int .i64) (.cons (.int .i64) (.cons (.int .i64) (.cons (.int .i64) (.cons (.int .i64) (.cons (.int .i64) (.cons (.int .i64) (.cons (.bool) (.cons (.int .i64) (.nil)))))))))))))) (.nil)))))))] (
    .branch (.bin (.lt) (.var 4) (.kint .i64 (10))) (
      .any 18 (.agg (.cons (.int .i64) (.cons (.int .i64) (.cons (.list (.agg (.cons (.int .i64) (.cons (.int .i64) (.cons (.int .i64) (.cons (.int .i64) (.cons (.list (.agg (.cons (.int .i64) (.cons (.int .i64) (.cons (.int .i64) (.nil)))))) (.cons (.int .i64) (.cons (.bool) (.nil)))))))))) (.cons (.list (.agg (.cons (.int .i64) (.cons (.int .i64) (.cons (.int .i64) (.cons (.int .i64) (.cons (.list (.agg (.cons (.int .i64) (.cons (.int .i64) (.cons (.int .i64) (.nil)))))) (.cons (.int .i64) (.cons (.bool) (.nil)))))))))) (.cons (.list (.agg (.cons (.int .i64) (.cons (.int .i64) (.cons (.int .i64) (.cons (.bool) (.cons (.bool) (.cons (.int .i64) (.cons (.int .i64) (.cons (.int .i64) (.nil))))))))))) (.cons (.list (.agg (.cons (.int .i64) (.cons (.int .i64) (.cons (.int .i64) (.cons (.int .i64) (.cons (.int .i64) (.cons (.int .i64) (.cons (.int .i64) (.cons (.int .i64) (.cons (.int .i64) (.cons (.bool) (.cons (.int .i64) (.nil)))))))))))))) (.cons (.list (.agg (.cons (.int .i64) (.cons (.int .i64) (.cons (.int .i64) (.cons (.int .i64) (.nil))))))) (.cons (.list (.agg (.cons (.int .i64) (.cons (.int .i64) (.cons (.int .i64) (.cons (.int .i64) (.nil))))))) (.cons (.list (.agg (.cons (.int .i64) (.cons (.int .i64) (.cons (.int .i64) (.cons (.int .i64) (.cons (.list (.agg (.cons (.int .i64) (.cons (.int .i64) (.cons (.int .i64) (.cons (.int .i64) (.cons (.int .i64) (.cons (.int .i64) (.cons (.int .i64) (.cons (.int .i64) (.cons (.int .i64) (.cons (.bool) (.cons (.int .i64) (.nil)))))))))))))) (.nil)))))))) (.nil))))))))))) <|
      .again 0 [.bin (.add .i64) (.var 4) (.kint .i64 (1)), .un (.cell 0) (.var 18), .un (.cell 1) (.var 18), .un (.cell 2) (.var 18), .un (.cell 3) (.var 18), .un (.cell 4) (.var 18), .un (.cell 5) (.var 18), .un (.cell 6) (.var 18), .un (.cell 7) (.var 18), .un (.cell 8) (.var 18)])
      (
      .loop 17 [.kint .i64 (0), .var 5, .var 6, .var 7, .var 8, .var 9, .var 10, .var 11, .var 12, .var 13] [.int .i64, .int .i64, .int .i64, .list (.agg (.cons (.int .i64) (.cons (.int .i64) (.cons (.int .i64) (.cons (.int .i64) (.cons (.list (.agg (.cons (.int .i64) (.cons (.int .i64) (.cons (.int .i64) (.nil)))))) (.cons (.int .i64) (.cons (.bool) (.nil))))))))), .list (.agg (.cons (.int .i64) (.cons (.int .i64) (.cons (.int .i64) (.cons (.int .i64) (.cons (.list (.agg (.cons (.int .i64) (.cons (.int .i64) (.cons (.int .i64) (.nil)))))) (.cons (.int .i64) (.cons (.bool) (.nil))))))))), .list (.agg (.cons (.int .i64) (.cons (.int .i64) (.cons (.int .i64) (.cons (.bool) (.cons (.bool) (.cons (.int .i64) (.cons (.int .i64) (.cons (.int .i64) (.nil)))))))))), .list (.agg (.cons (.int .i64) (.cons (.int .i64) (.cons (.int .i64) (.cons (.int .i64) (.cons (.int .i64) (.cons (.int .i64) (.cons (.int .i64) (.cons (.int .i64) (.cons (.int .i64) (.cons (.bool) (.cons (.int .i64) (.nil))))))))))))), .list (.agg (.cons (.int .i64) (.cons (.int .i64) (.cons (.int .i64) (.cons (.int .i64) (.nil)))))), .list (.agg (.cons (.int .i64) (.cons (.int .i64) (.cons (.int .i64) (.cons (.int .i64) (.nil)))))), .list (.agg (.cons (.int .i64) (.cons (.int .i64) (.cons (.int .i64) (.cons (.int .i64) (.cons (.list (.agg (.cons (.int .i64) (.cons (.int .i64) (.cons (.int .i64) (.cons (.int .i64) (.cons (.int .i64) (.cons (.int .i64) (.cons (.int .i64) (.cons (.int .i64) (.cons (.int .i64) (.cons (.bool) (.cons (.int .i64) (.nil)))))))))))))) (.nil)))))))] (
        .branch (.bin (.lt) (.var 17) (.un (.len) (.var 26))) (
          .loop 33 [.kint .i64 (0), .var 18, .var 19, .var 20, .var 21, .var 22, .var 23, .var 24, .var 25, .var 26] [.int .i64, .int .i64, .int .i64, .list (.agg (.cons (.int .i64) (.cons (.int .i64) (.cons (.int .i64) (.cons (.int .i64) (.cons (.list (.agg (.cons (.int .i64) (.cons (.int .i64) (.cons (.int .i64) (.nil)))))) (.cons (.int .i64) (.cons (.bool) (.nil))))))))), .list (.agg (.cons (.int .i64) (.cons (.int .i64) (.cons (.int .i64) (.cons (.int .i64) (.cons (.list (.agg (.cons (.int .i64) (.cons (.int .i64) (.cons (.int .i64) (.nil)))))) (.cons (.int .i64) (.cons (.bool) (.nil))))))))), .list (.agg (.cons (.int .i64) (.cons (.int .i64) (.cons (.int .i64) (.cons (.bool) (.cons (.bool) (.cons (.int .i64) (.cons (.int .i64) (.cons (.int .i64) (.nil)))))))))), .list (.agg (.cons (.int .i64) (.cons (.int .i64) (.cons (.int .i64) (.cons (.int .i64) (.cons (.int .i64) (.cons (.int .i64) (.cons (.int .i64) (.cons (.int .i64) (.cons (.int .i64) (.cons (.bool) (.cons (.int .i64) (.nil))))))))))))), .list (.agg (.cons (.int .i64) (.cons (.int .i64) (.cons (.int .i64) (.cons (.int .i64) (.nil)))))), .list (.agg (.cons (.int .i64) (.cons (.int .i64) (.cons (.int .i64) (.cons (.int .i64) (.nil)))))), .list (.agg (.cons (.int .i64) (.cons (.int .i64) (.cons (.int .i64) (.cons (.int .i64) (.cons (.list (.agg (.cons (.int .i64) (.cons (.int .i64) (.cons (.int .i64) (.cons (.int .i64) (.cons (.int .i64) (.cons (.int .i64) (.cons (.int .i64) (.cons (.int .i64) (.cons (.int .i64) (.cons (.bool) (.cons (.int .i64) (.nil)))))))))))))) (.nil)))))))] (
            .obl [] (.bin (.and) (.bin (.le) (.kint .i64 (0)) (.var 17)) (.bin (.lt) (.var 17) (.un (.len) (.var 42)))) <|
            .branch (.bin (.lt) (.var 33) (.un (.len) (.un (.cell 4) (.bin (.idx) (.var 42) (.var 17))))) (
              .obl [] (.bin (.and) (.bin (.le) (.kint .i64 (0)) (.var 17)) (.bin (.lt) (.var 17) (.un (.len) (.var 42)))) <|
              .obl [] (.bin (.and) (.bin (.le) (.kint .i64 (0)) (.var 33)) (.bin (.lt) (.var 33) (.un (.len) (.un (.cell 4) (.bin (.idx) (.var 42) (.var 17)))))) <|
              .hav 63 [(.un (.cell 2) (.un (.cell 0) (.var 63)), .var 36), (.un (.cell 3) (.un (.cell 0) (.var 63)), .var 37), (.un (.cell 4) (.un (.cell 0) (.var 63)), .var 38), (.un (.cell 5) (.un (.cell 0) (.var 63)), .var 39), (.un (.cell 6) (.un (.cell 0) (.var 63)), .var 40), (.un (.cell 7) (.un (.cell 0) (.var 63)), .var 41), (.un (.cell 8) (.un (.cell 0) (.var 63)), .var 42)] <|
              .again 0 [.bin (.add .i64) (.var 33) (.kint .i64 (1)), .var 34, .var 35, .un (.cell 2) (.un (.cell 0) (.var 63)), .un (.cell 3) (.un (.cell 0) (.var 63)), .un (.cell 4) (.un (.cell 0) (.var 63)), .un (.cell 5) (.un (.cell 0) (.var 63)), .un (.cell 6) (.un (.cell 0) (.var 63)), .un (.cell 7) (.un (.cell 0) (.var 63)), .un (.cell 8) (.un (.cell 0) (.var 63))])
              (
              .again 1 [.bin (.add .i64) (.var 17) (.kint .i64 (1)), .var 34, .var 35, .var 36, .var 37, .var 38, .var 39, .var 40, .var 41, .var 42])))
          (
          .loop 33 [.kint .i64 (0), .var 18, .var 19, .var 20, .var 21, .var 22, .var 23, .var 24, .var 25, .var 26] [.int .i64, .int .i64, .int .i64, .list (.agg (.cons (.int .i64) (.cons (.int .i64) (.cons (.int .i64) (.cons (.int .i64) (.cons (.list (.agg (.cons (.int .i64) (.cons (.int .i64) (.cons (.int .i64) (.nil)))))) (.cons (.int .i64) (.cons (.bool) (.nil))))))))), .list (.agg (.cons (.int .i64) (.cons (.int .i64) (.cons (.int .i64) (.cons (.int .i64) (.cons (.list (.agg (.cons (.int .i64) (.cons (.int .i64) (.cons (.int .i64) (.nil)))))) (.cons (.int .i64) (.cons (.bool) (.nil))))))))), .list (.agg (.cons (.int .i64) (.cons (.int .i64) (.cons (.int .i64) (.cons (.bool) (.cons (.bool) (.cons (.int .i64) (.cons (.int .i64) (.cons (.int .i64) (.nil)))))))))), .list (.agg (.cons (.int .i64) (.cons (.int .i64) (.cons (.int .i64) (.cons (.int .i64) (.cons (.int .i64) (.cons (.int .i64) (.cons (.int .i64) (.cons (.int .i64) (.cons (.int .i64) (.cons (.bool) (.cons (.int .i64) (.nil))))))))))))), .list (.agg (.cons (.int .i64) (.cons (.int .i64) (.cons (.int .i64) (.cons (.int .i64) (.nil)))))), .list (.agg (.cons (.int .i64) (.cons (.int .i64) (.cons (.int .i64) (.cons (.int .i64) (.nil)))))), .list (.agg (.cons (.int .i64) (.cons (.int .i64) (.cons (.int .i64) (.cons (.int .i64) (.cons (.list (.agg (.cons (.int .i64) (.cons (.int .i64) (.cons (.int .i64) (.cons (.int .i64) (.cons (.int .i64) (.cons (.int .i64) (.cons (.int .i64) (.cons (.int .i64) (.cons (.int .i64) (.cons (.bool) (.cons (.int .i64) (.nil)))))))))))))) (.nil)))))))] (
            .branch (.bin (.lt) (.var 33) (.un (.len) (.var 37))) (
              .loop 49 [.kint .i64 (0), .var 34, .var 35, .var 36, .var 37, .var 38, .var 39, .var 40, .var 41, .var 42] [.int .i64, .int .i64, .int .i64, .list (.agg (.cons (.int .i64) (.cons (.int .i64) (.cons (.int .i64) (.cons (.int .i64) (.cons (.list (.agg (.cons (.int .i64) (.cons (.int .i64) (.cons (.int .i64) (.nil)))))) (.cons (.int .i64) (.cons (.bool) (.nil))))))))), .list (.agg (.cons (.int .i64) (.cons (.int .i64) (.cons (.int .i64) (.cons (.int .i64) (.cons (.list (.agg (.cons (.int .i64) (.cons (.int .i64) (.cons (.int .i64) (.nil)))))) (.cons (.int .i64) (.cons (.bool) (.nil))))))))), .list (.agg (.cons (.int .i64) (.cons (.int .i64) (.cons (.int .i64) (.cons (.bool) (.cons (.bool) (.cons (.int .i64) (.cons (.int .i64) (.cons (.int .i64) (.nil)))))))))), .list (.agg (.cons (.int .i64) (.cons (.int .i64) (.cons (.int .i64) (.cons (.int .i64) (.cons (.int .i64) (.cons (.int .i64) (.cons (.int .i64) (.cons (.int .i64) (.cons (.int .i64) (.cons (.bool) (.cons (.int .i64) (.nil))))))))))))), .list (.agg (.cons (.int .i64) (.cons (.int .i64) (.cons (.int .i64) (.cons (.int .i64) (.nil)))))), .list (.agg (.cons (.int .i64) (.cons (.int .i64) (.cons (.int .i64) (.cons (.int .i64) (.nil)))))), .list (.agg (.cons (.int .i64) (.cons (.int .i64) (.cons (.int .i64) (.cons (.int .i64) (.cons (.list (.agg (.cons (.int .i64) (.cons (.int .i64) (.cons (.int .i64) (.cons (.int .i64) (.cons (.int .i64) (.cons (.int .i64) (.cons (.int .i64) (.cons (.int .i64) (.cons (.int .i64) (.cons (.bool) (.cons (.int .i64) (.nil)))))))))))))) (.nil)))))))] (
                .obl [] (.bin (.and) (.bin (.le) (.kint .i64 (0)) (.var 33)) (.bin (.lt) (.var 33) (.un (.len) (.var 53)))) <|
                .branch (.bin (.lt) (.var 49) (.un (.len) (.un (.cell 4) (.bin (.idx) (.var 53) (.var 33))))) (
                  .obl [] (.bin (.and) (.bin (.le) (.kint .i64 (0)) (.var 33)) (.bin (.lt) (.var 33) (.un (.len) (.var 53)))) <|
                  .obl [] (.bin (.and) (.bin (.le) (.kint .i64 (0)) (.var 49)) (.bin (.lt) (.var 49) (.un (.len) (.un (.cell 4) (.bin (.idx) (.var 53) (.var 33)))))) <|
                  .hav 77 [(.un (.cell 2) (.un (.cell 0) (.var 77)), .var 52), (.un (.cell 3) (.un (.cell 0) (.var 77)), .var 53), (.un (.cell 4) (.un (.cell 0) (.var 77)), .var 54), (.un (.cell 5) (.un (.cell 0) (.var 77)), .var 55), (.un (.cell 6) (.un (.cell 0) (.var 77)), .var 56), (.un (.cell 7) (.un (.cell 0) (.var 77)), .var 57), (.un (.cell 8) (.un (.cell 0) (.var 77)), .var 58)] <|
                  .again 0 [.bin (.add .i64) (.var 49) (.kint .i64 (1)), .var 50, .var 51, .un (.cell 2) (.un (.cell 0) (.var 77)), .un (.cell 3) (.un (.cell 0) (.var 77)), .un (.cell 4) (.un (.cell 0) (.var 77)), .un (.cell 5) (.un (.cell 0) (.var 77)), .un (.cell 6) (.un (.cell 0) (.var 77)), .un (.cell 7) (.un (.cell 0) (.var 77)), .un (.cell 8) (.un (.cell 0) (.var 77))])
                  (
                  .again 1 [.bin (.add .i64) (.var 33) (.kint .i64 (1)), .var 50, .var 51, .var 52, .var 53, .var 54, .var 55, .var 56, .var 57, .var 58])))
              (
              .ret (.kbool true)))))))
def WJ (xs : List D) : Prop := 0 ≤ I (.list xs) 0
def WM (xs : List D) : Nat := 9223372036854775808 - (I (.list xs) 0).toNat
theorem seen_allocs {d : D} (h : Has seenT d) : ∃ al, (d.toL[4]?.getD D.top).toL = al ∧ al.length ≤ 9223372036854775807 := by
  obtain ⟨x0, x1, x2, x3, al, rfl, _, _, _, _, hal⟩ := seen_cells h
  obtain ⟨l, hl, hlen, _⟩ := has_list.1 hal
  injection hl with hl; subst hl
  exact ⟨_, rfl, hlen.1⟩
theorem stable_groups {d : D} (h : Has jobT d) : ∃ al, (d.toL[4]?.getD D.top).toL = al ∧ al.length ≤ 9223372036854775807 := by
  obtain ⟨j, rfl, hj⟩ := AJob.cases h
  refine ⟨_, rfl, ?_⟩
  have e : ((j.enc.toL[4]?.getD D.top).toL).length = j.Groups.length := by simp [AJob.toL, encL_toL]
  rw [e]
  exact hj.Groups.1.1
theorem vc6B_ok (ρ : Nat → D) : vc6B.holds phi pre (fun _ => True) ρ [] := by
  simp only [vc6B, vh_obl, vh_call, vh_room, vh_branch, vh_loop, vh_again, vh_ret, vh_any, vh_hav]
  refine LoopOk.intro (fun xs => 0 ≤ I (.list xs) 0 ∧ I (.list xs) 0 ≤ 10) (fun xs => 10 - (I (.list xs) 0).toNat) (by simp [I, den, toL_list, toI_int]) ?_
  rintro xs ⟨_, _, rfl, ⟨i, rfl, hi⟩, _, _, rfl, ⟨x0, rfl, _⟩, _, _, rfl, ⟨x1, rfl, _⟩, _, _, rfl, ⟨l2, rfl, _⟩, _, _, rfl, ⟨l3, rfl, hl3, hg3⟩, _, _, rfl, ⟨l4, rfl, _⟩, _, _, rfl, ⟨l5, rfl, _⟩, _, _, rfl, ⟨l6, rfl, _⟩, _, _, rfl, ⟨l7, rfl, _⟩, _, _, rfl, ⟨l8, rfl, hl8, hg8⟩, rfl⟩ hI
  simp [I, toL_list, toI_int] at hI
  refine ⟨fun h d hd => ?_, fun h => ?_⟩
  · simp [updV, den, B.den, U.den, upd, toI_int, toB_bool] at h
    simp [updV, den, B.den, U.den, upd, I, toL_list, toI_int]
    rw [wrap64 (by omega) (by omega)]
    omega
  · clear h
    refine LoopOk.intro WJ WM (by simp [WJ, I, updV, den, B.den, U.den, upd, toI_int, toB_bool, toL_list, toL_agg]) ?_
    rintro xs ⟨_, _, rfl, ⟨j, rfl, hj⟩, _, _, rfl, ⟨x0, rfl, _⟩, _, _, rfl, ⟨x1, rfl, _⟩, _, _, rfl, ⟨l2, rfl, _⟩, _, _, rfl, ⟨l3, rfl, hl3, hg3⟩, _, _, rfl, ⟨l4, rfl, _⟩, _, _, rfl, ⟨l5, rfl, _⟩, _, _, rfl, ⟨l6, rfl, _⟩, _, _, rfl, ⟨l7, rfl, _⟩, _, _, rfl, ⟨l8, rfl, hl8, hg8⟩, rfl⟩ hJ
    have hJ' : 0 ≤ j := by simpa [WJ, I, toL_list, toI_int] using hJ
    clear hJ
    have hm : l8.length ≤ 9223372036854775807 := hl8.1
    refine ⟨fun h => ?_, fun h => ?_⟩
    · simp [updV, den, B.den, U.den, upd, toI_int, toB_bool, toL_list, toL_agg] at h
      have hjw : IntKind.i64.wrap (j + 1) = j + 1 := wrap64 (by omega) (by omega)
      obtain ⟨n, hn⟩ : ∃ n, l8.length = n := ⟨_, rfl⟩
      refine LoopOk.intro (fun xs => WJ xs ∧ (((D.list xs).toL.getD 9 .top).toL).length = n) WM (by simp [WJ, I, updV, den, B.den, U.den, upd, toI_int, toB_bool, toL_list, toL_agg, hn]) ?_
      rintro xs ⟨_, _, rfl, ⟨k, rfl, hk⟩, _, _, rfl, ⟨x0, rfl, _⟩, _, _, rfl, ⟨x1, rfl, _⟩, _, _, rfl, ⟨l2, rfl, _⟩, _, _, rfl, ⟨m3, rfl, hm3, hgm3⟩, _, _, rfl, ⟨l4, rfl, _⟩, _, _, rfl, ⟨l5, rfl, _⟩, _, _, rfl, ⟨l6, rfl, _⟩, _, _, rfl, ⟨l7, rfl, _⟩, _, _, rfl, ⟨m8, rfl, hm8, hgm8⟩, rfl⟩ ⟨hK, hlen⟩
      have hK' : 0 ≤ k := by simpa [WJ, I, toL_list, toI_int] using hK
      clear hK
      simp [toL_list] at hlen
      obtain ⟨d, hd⟩ : ∃ d, m8[j.toNat]? = some d := ⟨_, List.getElem?_eq_getElem (by omega)⟩
      obtain ⟨al, hal1, hal2⟩ := seen_allocs (hgm8 d (List.mem_of_getElem? hd))
      refine ⟨?_, fun h2 => ?_, fun h2 => ?_⟩
      · simp [updV, den, B.den, U.den, upd, toI_int, toB_bool, toL_list, toL_agg, hlen]; omega
      · simp [updV, den, B.den, U.den, upd, toI_int, toB_bool, toL_list, toL_agg, hd, hal1] at h2
        have hkw : IntKind.i64.wrap (k + 1) = k + 1 := wrap64 (by omega) (by omega)
        refine ⟨?_, ?_, fun d' hd' => ?_⟩
        · simp [updV, den, B.den, U.den, upd, toI_int, toB_bool, toL_list, toL_agg, hlen]; omega
        · simp [updV, den, B.den, U.den, upd, toI_int, toB_bool, toL_list, toL_agg, hd, hal1]; omega
        · simp [updV, den, B.den, U.den, upd, toI_int, toB_bool, toL_list, toL_agg] at hd'
          simp [WJ, WM, I, updV, den, B.den, U.den, upd, toI_int, toB_bool, toL_list, toL_agg, hkw, hd', hlen]
          omega
      · simp [WJ, WM, I, updV, den, B.den, U.den, upd, toI_int, toB_bool, toL_list, toL_agg, hjw]
        omega
    · clear h
      refine LoopOk.intro WJ WM (by simp [WJ, I, updV, den, B.den, U.den, upd, toI_int, toB_bool, toL_list, toL_agg]) ?_
      rintro xs ⟨_, _, rfl, ⟨j, rfl, hj⟩, _, _, rfl, ⟨x0, rfl, _⟩, _, _, rfl, ⟨x1, rfl, _⟩, _, _, rfl, ⟨l2, rfl, _⟩, _, _, rfl, ⟨l3, rfl, hl3, hg3⟩, _, _, rfl, ⟨l4, rfl, _⟩, _, _, rfl, ⟨l5, rfl, _⟩, _, _, rfl, ⟨l6, rfl, _⟩, _, _, rfl, ⟨l7, rfl, _⟩, _, _, rfl, ⟨l8, rfl, hl8, hg8⟩, rfl⟩ hJ
      have hJ' : 0 ≤ j := by simpa [WJ, I, toL_list, toI_int] using hJ
      clear hJ
      have hm : l3.length ≤ 9223372036854775807 := hl3.1
      refine ⟨fun h => ?_, fun h => ?_⟩
      · simp [updV, den, B.den, U.den, upd, toI_int, toB_bool, toL_list, toL_agg] at h
        have hjw : IntKind.i64.wrap (j + 1) = j + 1 := wrap64 (by omega) (by omega)
        obtain ⟨n, hn⟩ : ∃ n, l3.length = n := ⟨_, rfl⟩
        refine LoopOk.intro (fun xs => WJ xs ∧ (((D.list xs).toL.getD 4 .top).toL).length = n) WM (by simp [WJ, I, updV, den, B.den, U.den, upd, toI_int, toB_bool, toL_list, toL_agg, hn]) ?_
        rintro xs ⟨_, _, rfl, ⟨k, rfl, hk⟩, _, _, rfl, ⟨x0, rfl, _⟩, _, _, rfl, ⟨x1, rfl, _⟩, _, _, rfl, ⟨l2, rfl, _⟩, _, _, rfl, ⟨m3, rfl, hm3, hgm3⟩, _, _, rfl, ⟨l4, rfl, _⟩, _, _, rfl, ⟨l5, rfl, _⟩, _, _, rfl, ⟨l6, rfl, _⟩, _, _, rfl, ⟨l7, rfl, _⟩, _, _, rfl, ⟨m8, rfl, hm8, hgm8⟩, rfl⟩ ⟨hK, hlen⟩
        have hK' : 0 ≤ k := by simpa [WJ, I, toL_list, toI_int] using hK
        clear hK
        simp [toL_list] at hlen
        obtain ⟨d, hd⟩ : ∃ d, m3[j.toNat]? = some d := ⟨_, List.getElem?_eq_getElem (by omega)⟩
        obtain ⟨al, hal1, hal2⟩ := stable_groups (hgm3 d (List.mem_of_getElem? hd))
        refine ⟨?_, fun h2 => ?_, fun h2 => ?_⟩
        · simp [updV, den, B.den, U.den, upd, toI_int, toB_bool, toL_list, toL_agg, hlen]; omega
        · simp [updV, den, B.den, U.den, upd, toI_int, toB_bool, toL_list, toL_agg, hd, hal1] at h2
          have hkw : IntKind.i64.wrap (k + 1) = k + 1 := wrap64 (by omega) (by omega)
          refine ⟨?_, ?_, fun d' hd' => ?_⟩
          · simp [updV, den, B.den, U.den, upd, toI_int, toB_bool, toL_list, toL_agg, hlen]; omega
          · simp [updV, den, B.den, U.den, upd, toI_int, toB_bool, toL_list, toL_agg, hd, hal1]; omega
          · simp [updV, den, B.den, U.den, upd, toI_int, toB_bool, toL_list, toL_agg] at hd'
            simp [WJ, WM, I, updV, den, B.den, U.den, upd, toI_int, toB_bool, toL_list, toL_agg, hkw, hd', hlen]
            omega
        · simp [WJ, WM, I, updV, den, B.den, U.den, upd, toI_int, toB_bool, toL_list, toL_agg, hjw]
          omega
      · trivial

/- The statement on copies: its operations, one by one; what is known behind its first pieces. -/
noncomputable def q2 : Array Oper := regOps 2 body6
theorem q2_0 : ∃ ty pos af, q2[0]? = some ⟨some 14, .load 29 (.tmp 1), ty, pos, af, none⟩ := ⟨_, _, _, rfl⟩
theorem q2_1 : ∃ ty pos af, q2[1]? = some ⟨some 15, .call { callee := .value (.func 30), args := #[.tmp 14], argTypes := #[29] }, ty, pos, af, none⟩ := ⟨_, _, _, rfl⟩
theorem q2_2 : ∃ ty pos af, q2[2]? = some ⟨some 4, .alloc 29, ty, pos, af, none⟩ := ⟨_, _, _, rfl⟩
theorem q2_3 : ∃ ty pos af, q2[3]? = some ⟨none, .store 29 (.tmp 4) (.tmp 15), ty, pos, af, none⟩ := ⟨_, _, _, rfl⟩
theorem q2_n : q2.size = 4 := by kernel_rfl
noncomputable def q3 : Array Oper := regOps 3 body6
theorem q3_0 : ∃ ty pos af, q3[0]? = some ⟨some 16, .load 29 (.tmp 4), ty, pos, af, none⟩ := ⟨_, _, _, rfl⟩
theorem q3_1 : ∃ ty pos af, q3[1]? = some ⟨some 17, .load 29 (.tmp 3), ty, pos, af, none⟩ := ⟨_, _, _, rfl⟩
theorem q3_2 : ∃ ty pos af, q3[2]? = some ⟨some 18, .call { callee := .value (.func 31), args := #[.tmp 16, .tmp 17], argTypes := #[29, 29] }, ty, pos, af, none⟩ := ⟨_, _, _, rfl⟩
theorem q3_3 : ∃ ty pos af, q3[3]? = some ⟨some 5, .assign (.tmp 18), ty, pos, af, none⟩ := ⟨_, _, _, rfl⟩
theorem q3_n : q3.size = 4 := by kernel_rfl
noncomputable def q4 : Array Oper := regOps 4 body6
theorem q4_0 : ∃ ty pos af, q4[0]? = some ⟨some 19, .move (.tmp 5), ty, pos, af, none⟩ := ⟨_, _, _, rfl⟩
theorem q4_1 : ∃ ty pos af, q4[1]? = some ⟨some 20, .unOp .not 4 (.tmp 19), ty, pos, af, none⟩ := ⟨_, _, _, rfl⟩
theorem q4_n : q4.size = 2 := by kernel_rfl
noncomputable def q24 : Array Oper := regOps 24 body6
theorem q24_0 : ∃ ty pos af, q24[0]? = some ⟨some 84, .load 29 (.tmp 1), ty, pos, af, none⟩ := ⟨_, _, _, rfl⟩
theorem q24_1 : ∃ ty pos af, q24[1]? = some ⟨some 85, .load 29 (.tmp 3), ty, pos, af, none⟩ := ⟨_, _, _, rfl⟩
theorem q24_2 : ∃ ty pos af, q24[2]? = some ⟨some 86, .call { callee := .value (.func 31), args := #[.tmp 84, .tmp 85], argTypes := #[29, 29] }, ty, pos, af, none⟩ := ⟨_, _, _, rfl⟩
theorem q24_3 : ∃ ty pos af, q24[3]? = some ⟨some 11, .assign (.tmp 86), ty, pos, af, none⟩ := ⟨_, _, _, rfl⟩
theorem q24_n : q24.size = 4 := by kernel_rfl


noncomputable def pre6 : List Code := (cutC 3 rest6b).1
noncomputable def q25 : Array Oper := regOps 25 body6
noncomputable def c6x : Code := match cutC 3 rest6a with
  | ([_, _, .seq _ (.cond _ x _)], _) => x
  | _ => .skip
theorem rest6a_eq : rest6a = .seq (.region 2 q2 false) (.seq (.region 3 q3 false) (.seq (.seq (.region 4 q4 false) (.cond (.tmp 20) c6x .skip)) rest6b)) := by kernel_rfl
theorem rest6b_eq : rest6b = seqs pre6 (.seq (.region 24 q24 false) (.seq (.region 25 q25 false) .ret)) := by kernel_rfl

/-- Behind the first pieces: the store, and a copy of the reference's. -/
structure LwAt (w0 : World) (S0 S : Foot) (ds : List D) (b1 b3 : Nat) (us ws : List Value) (T1 T3 : TypeId) (a : Act) (w : World) : Prop where
  below : Below w0.heap.size w0 w
  sz : a.tmps.size = 91
  defers : a.defers = []
  p1 : a.tmps[1]? = some (.pointer (some ⟨b1, 0, none⟩))
  p3 : a.tmps[3]? = some (.pointer (some ⟨b3, 0, none⟩))
  h1 : w.heap[b1]? = some (.cells us.toArray T1 (0, 0))
  h3 : w.heap[b3]? = some (.cells ws.toArray T3 (0, 0))
  ul : us.length = 9
  wl : ws.length = 9
  has : HasL (.ofL storeTs) ds
  lt : ∀ b o, S b o → b < w.heap.size
  r1 : Rep w S (.agg us.toArray) (.agg ds)
  r3 : Rep w S (.agg ws.toArray) (.agg ds)

theorem lwEnd_ok {p : Nat} {ds : List D} {w0 w : World} {S : Foot} {ρ : Nat → D} {G : Gh} {σ : St} {a : Act} {stk : List (List D → Prop)}
    (h : (lwEnd σ).holds phi pre (fun d => d = .list [.list ds, .list ds]) ρ stk) (hs : Sim 91 w0 ⟨S, fun _ => False, fun _ => none, False, False⟩ ⟨ρ, p, fun i => i < p⟩ G σ a w) :
    ∃ b1 b3 us ws T1 T3, LwAt w0 S G.S ds b1 b3 us ws T1 T3 a w := by
  unfold lwEnd at h
  split at h
  · rename_i i j hi hj
    split at h
    · rename_i cs cs3 hci hcj
      split at h
      · rename_i es ts es3 ts3 has has3
        split at h
        · rename_i hc
          obtain ⟨hij, rfl, rfl⟩ := hc
          have hd : den ρ (.cons (.ofL es) (.cons (.ofL es3) .nil)) = .list [.list ds, .list ds] := h
          simp only [den, den_ofL, D.toL, D.list.injEq, List.cons.injEq, and_true] at hd
          obtain ⟨hd1, hd3⟩ := hd
          obtain ⟨v1, hv1, _, _, hr1⟩ := hs.t _ _ _ hi
          obtain ⟨v2, hv2, _, _, hr2⟩ := hs.t _ _ _ hj
          simp only [condB, List.all_nil, if_true] at hr1 hr2
          obtain ⟨_, rfl⟩ := hr1
          obtain ⟨_, rfl⟩ := hr2
          obtain ⟨n1, _, ⟨us, T1, g1, r1⟩, e1⟩ := hs.m.box _ _ _ hci
          obtain ⟨n2, _, ⟨ws, T3, g2, r2⟩, e2⟩ := hs.m.box _ _ _ hcj
          obtain ⟨k1, k2, k3, k4, k5⟩ := asDatas_ok has r1
          obtain ⟨m1, m2, m3, m4, m5⟩ := asDatas_ok has3 r2
          refine ⟨_, _, us, ws, T1, T3, hs.m.below.to (fun _ h => h), hs.sz, hs.defers, hv1, hv2, g1, g2, k3.symm, m3.symm, by rw [← hd1]; exact k5, hs.m.footlt, ?_, ?_⟩
          · rw [← hd1]
            refine .agg us _ (by simp [k2]) fun i v d hv hd => ?_
            simp only [List.getElem?_map, Option.map_eq_some_iff] at hd
            obtain ⟨e, he, rfl⟩ := hd
            exact k4 i v e hv he
          · rw [← hd3]
            refine .agg ws _ (by simp [m2]) fun i v d hv hd => ?_
            simp only [List.getElem?_map, Option.map_eq_some_iff] at hd
            obtain ⟨e, he, rfl⟩ := hd
            exact m4 i v e hv he
        · exact h.elim
      · exact h.elim
    · exact h.elim
  · exact h.elim

/- The statement on copies: the walk. -/
def rtEnd (σ : St) : VC := match σ.tm 2 with
  | some ([], .one (.dat e .bool)) => .ret e
  | _ => .stuck 46
def st25 : St := ⟨fun t => if t = 11 then some ([], .one (.dat (.var 0) .bool)) else none, fun _ => none, fun _ => none⟩
def vc6C : VC :=
  .call 3 14 (.nil) [(.var 0, true)] <|
  .ret (.bin (.and) (.var 0) (.var 3))

/-- The last pieces, from where the stores are still the same. -/
theorem tail25 {a : Act} {w : World} {R : Ending → World → Prop} (hsz : a.tmps.size = 91) (hdf : a.defers = []) (h11 : a.tmps[11]? = some (.bool true)) (hR : ∀ w', Below w.heap.size w w' → R (.returned (.bool true)) w') :
    (Code.seq (.region 25 q25 false) .ret).wp Try.prog (bodyPost Try.prog Try.f6 R) a w := by
  have hv : vc6C.holds phi pre (fun d => d = .bool true) (fun _ => .bool true) [] := by
    have hL : ∀ l, phi 14 l = .bool true := fun _ => rfl
    simp [vc6C, vh_call, vh_ret, den, B.den, upd, pre, hL, toB_bool]
  have heq : vcs ⟨Try.prog, ⟨tb50, [], 0⟩, 91, [], [], []⟩ [.region 25 q25 false] (fun σ _ _ => rtEnd σ) st25 1 0 = vc6C := by kernel_rfl
  rw [← heq] at hv
  have hsim : Sim 91 w ⟨fun _ _ => False, fun _ => False, fun _ => none, False, False⟩ ⟨fun _ => .bool true, 1, fun i => i < 1⟩ ⟨fun _ _ => False, fun _ => 0, fun _ => .nilIface⟩ st25 a w := by
    refine ⟨⟨BelowX.refl _ _, fun _ _ h => h, fun _ _ _ => rfl, fun i b h => (by cases h), fun i b h => (by cases h), fun _ _ h => h.elim, fun _ _ h => .inl h, ?_, ?_, ?_, ?_, fun g x b hx => (by cases hx), ?_, ?_, fun h => h.elim, fun h => h.elim⟩, ?_, hsz, hdf⟩
    · intro id x hx; cases hx
    · intro id ro cs hx; cases hx
    · intro i j x y hx; cases hx
    · intro g e T t hx; cases hx
    · intro g g' x y b hx; cases hx
    · intro g id x y b hx; cases hx
    · intro t c s hts
      simp only [st25] at hts
      split at hts
      · rename_i ht
        subst ht
        injection hts with hts; simp only [Prod.mk.injEq] at hts; obtain ⟨rfl, rfl⟩ := hts
        refine ⟨_, h11, by simp, by simp [SV.lt, SC.lt, E.lt], ?_⟩
        simp only [condB, List.all_nil, if_true]
        exact ⟨by simp [E.lt], .bool true, has_bool.2 ⟨true, rfl⟩⟩
      · cases hts
  refine vcs_sound (N := ⟨Try.prog, ⟨tb50, [], 0⟩, 91, [], [], []⟩) (R := fun d => d = .bool true) (S0 := ⟨fun _ _ => False, fun _ => False, fun _ => none, False, False⟩) (Φ := phi) (Pre := pre) mix con50 (fun _ _ _ _ _ _ _ _ h => h.elim) ⟨fun h => h.elim, fun h => h.elim⟩ (fun _ _ h => by cases h) (fun _ _ h => by cases h) (fun h => by have : (0 : Nat) = 2 := h; omega)
    [.region 25 q25 false] (fun σ _ _ => rtEnd σ) st25 1 0 (fun _ => .bool true) [] hv rfl (fun i b h => by cases h) ?_ a w _ hsim
  intro σ' p' d' ρ' stk' a' w' G' hp hag hk hs'
  refine wp_ret ?_
  unfold rtEnd at hk
  split at hk
  · rename_i e he
    have hd : den ρ' e = .bool true := hk
    obtain ⟨v, hv, _, _, hr⟩ := hs'.t _ _ _ he
    simp only [condB, List.all_nil, if_true] at hr
    obtain ⟨_, hr1, _⟩ := hr
    rw [show den (Cx.ρ ⟨ρ', p', fun i => i < p'⟩) e = .bool true from hd] at hr1
    obtain rfl := hr1.inv_bool
    refine ⟨hs'.defers, .bool true, ?_, hR w' (hs'.m.below.to (fun _ h => h))⟩
    refine run_results (vs := [.bool true]) ?_
    have hr : (readRes a' (.tmp 2)).run Try.prog w' = .ok (.bool true) w' := by simp [readRes, hv]
    show ([ResultVar.tmp 2].mapM (m := Sem) _).run _ _ = _
    simp [hr]
  · exact hk.elim

theorem cells_st (id : Nat) (ro : Bool) (l : List SC) : (st6.hp id = some (ro, l)) → id = 0 ∧ ro = false ∧ l = (cellsE (.var 0) 0 storeTs).map fun y => .dat y.1 y.2 := by
  intro h
  simp only [st6] at h
  split at h
  · injection h with h; simp only [Prod.mk.injEq] at h; exact ⟨by assumption, h.1.symm, h.2.symm⟩
  · cases h
theorem cellsE_get : ∀ (ts : List Ty) (e : E) (k j : Nat) (y : E × Ty), (cellsE e k ts)[j]? = some y → ∃ t, ts[j]? = some t ∧ y = (.un (.cell (k + j)) e, t)
  | [], e, k, j, y, h => by simp [cellsE] at h
  | t :: ts, e, k, 0, y, h => by simp [cellsE] at h; exact ⟨t, rfl, h.symm⟩
  | t :: ts, e, k, j + 1, y, h => by
    simp only [cellsE, List.getElem?_cons_succ] at h
    obtain ⟨t', h1, h2⟩ := cellsE_get ts e (k + 1) j y h
    exact ⟨t', by simpa using h1, by rw [h2]; congr 3; omega⟩
theorem cellsE_len : ∀ (ts : List Ty) (e : E) (k : Nat), (cellsE e k ts).length = ts.length
  | [], _, _ => rfl
  | _ :: ts, e, k => by simp [cellsE, cellsE_len ts e (k + 1)]

theorem loops6 {a : Act} {w : World} {F : Foot} {cs : List Value} {b1 b3 b4 : Nat} {T4 : TypeId} {ds : List D} {Q : Exit → Act → World → Prop} {rest : Code} (hsz : a.tmps.size = 91) (hdf : a.defers = []) (p1 : a.tmps[1]? = some (.pointer (some ⟨b1, 0, none⟩))) (p3 : a.tmps[3]? = some (.pointer (some ⟨b3, 0, none⟩)))
    (p4 : a.tmps[4]? = some (.pointer (some ⟨b4, 0, none⟩))) (h4 : w.heap[b4]? = some (.cells cs.toArray T4 (0, 0))) (hF : ∀ b o, F b o → b < w.heap.size ∧ b ≠ b4 ∧ ∃ cur T, w.heap[b]? = some (.cells cur T (0, 0))) (hr : Rep w F (.agg cs.toArray) (.agg ds)) (hds : HasL (.ofL storeTs) ds)
    (hQ : ∀ a' w', a'.tmps.size = 91 → a'.defers = [] → a'.tmps[1]? = some (.pointer (some ⟨b1, 0, none⟩)) → a'.tmps[3]? = some (.pointer (some ⟨b3, 0, none⟩)) → BelowX (fun b => (∃ o, F b o) ∨ b = b4) w w' → rest.wp Try.prog Q a' w') :
    (seqs pre6 rest).wp Try.prog Q a w := by
  have hv := vc6B_ok (fun _ => .agg ds)
  have heq : vcs ⟨Try.prog, ⟨[], [], 2⟩, 91, an6, [], wl6⟩ pre6 (fun σ _ _ => lpEnd σ) st6 3 0 = vc6B := by kernel_rfl
  rw [← heq] at hv
  obtain ⟨cs', hcs, hcl, hcr⟩ := hr.inv_agg
  obtain rfl : cs = cs' := by injection hcs with hcs; simpa using hcs
  have hdl : ds.length = 9 := by have := hasL_len hds; rw [this]; rfl
  have hsc : (((cellsE (.var 0) 0 storeTs).map fun y => SC.dat y.1 y.2).all SC.scalar) = true := by decide
  have hlen9 : ((cellsE (.var 0) 0 storeTs).map fun y => SC.dat y.1 y.2).length = 9 := by decide
  obtain ⟨β, hβ⟩ : ∃ β : Nat → Nat, β = fun i => if i = 0 then b4 else if i = 1 then b1 else b3 := ⟨_, rfl⟩
  obtain ⟨pin, hpin⟩ : ∃ pin : Nat → Option Nat, pin = fun i => if i = 0 then some b4 else if i = 1 then some b1 else if i = 2 then some b3 else none := ⟨_, rfl⟩
  have hpin' : ∀ i b, pin i = some b → i < 3 ∧ β i = b := by
    intro i b h
    rw [hpin] at h
    rw [hβ]
    simp only at h ⊢
    split at h
    · rename_i hi; subst hi; injection h with h; exact ⟨by decide, by simpa using h⟩
    · split at h
      · rename_i hi; subst hi; injection h with h; exact ⟨by decide, by simpa using h⟩
      · split at h
        · rename_i hi; subst hi; injection h with h; exact ⟨by decide, by simpa using h⟩
        · cases h
  have hsim : Sim 91 w ⟨fun _ _ => False, fun b => (∃ o, F b o) ∨ b = b4, pin, False, True⟩ ⟨fun _ => .agg ds, 3, fun i => i < 3⟩ ⟨F, β, fun _ => .nilIface⟩ st6 a w := by
    refine ⟨⟨BelowX.refl _ _, fun _ _ h => h.elim, fun _ _ h => h.elim, hpin', fun _ _ _ => trivial, fun b o h => (hF b o h).1, fun b o h => .inr (.inr (.inl ⟨o, h⟩)), ?_, ?_, ?_, ?_, fun g x b hx => (by cases hx), ?_, ?_, fun h => h.elim, fun _ b o h => (hF b o h).2.2⟩, ?_, hsz, hdf⟩
    · intro id x hx
      obtain ⟨ro, l⟩ := x
      obtain ⟨rfl, _⟩ := cells_st id ro l hx
      show (0 : Nat) < 3; omega
    · intro id ro l hx
      obtain ⟨rfl, rfl, rfl⟩ := cells_st id ro l hx
      have hβ0 : β 0 = b4 := by rw [hβ]; rfl
      refine ⟨.inr ⟨.inr hβ0, 0, ?_⟩, hsc, ⟨cs, T4, ?_, ?_, ?_⟩, ?_⟩
      · show pin 0 = some (β 0); rw [hβ0, hpin]; rfl
      · show w.heap[β 0]? = _; rw [hβ0]; exact h4
      · rw [hlen9, hcl]; exact hdl
      · intro i c v hc hv'
        simp only [List.getElem?_map, Option.map_eq_some_iff] at hc
        obtain ⟨y, hy, rfl⟩ := hc
        obtain ⟨t, ht, rfl⟩ := cellsE_get _ _ _ _ _ hy
        obtain ⟨d, hd, hdt⟩ := hasL_get hds i t (by rw [Ty.toL_ofL]; exact ht)
        have he : den (fun _ => D.agg ds) (.un (.cell (0 + i)) (.var 0)) = d := by
          show (D.agg ds).toL.getD (0 + i) .top = d
          rw [Nat.zero_add]; exact toL_getD hd
        refine ⟨by simp [E.lt], ?_, ?_⟩
        · show Rep w F v (den (fun _ => D.agg ds) _); rw [he]; exact hcr i v d hv' hd
        · show Has t (den (fun _ => D.agg ds) _); rw [he]; exact hdt
      · simp only [Bool.false_eq_true, if_false]
        intro o ho
        rw [hβ0] at ho
        exact (hF b4 o ho).2.1 rfl
    · intro i j x y hx hy _
      obtain ⟨ro, l⟩ := x
      obtain ⟨ro', l'⟩ := y
      rw [(cells_st i ro l hx).1, (cells_st j ro' l' hy).1]
    · intro g e T t hx; cases hx
    · intro g g' x y b hx; cases hx
    · intro g id x y b hx; cases hx
    · intro t c s hts
      have key : ∀ (v : Value) (i : Nat) (b : Nat), i < 3 → β i = b → a.tmps[t]? = some (.pointer (some ⟨b, 0, none⟩)) → some (([] : Cond), SV.one (.adr i 0)) = some (c, s) → ∃ v, a.tmps[t]? = some v ∧ (∀ x ∈ c, x.1.lt 3 = true) ∧ s.lt 3 = true ∧ (if condB (fun _ => D.agg ds) c = true then RSV ⟨fun _ => .agg ds, 3, fun i => i < 3⟩ w ⟨F, β, fun _ => .nilIface⟩ s v else v = undef) := by
        intro v i b hi hb hv he
        injection he with he
        injection he with he1 he2
        subst he1; subst he2
        refine ⟨_, hv, by simp, by simp [SV.lt, SC.lt], ?_⟩
        simp only [condB, List.all_nil, if_true]
        exact ⟨hi, by show Value.pointer (some ⟨b, 0, none⟩) = .pointer (some ⟨β i, 0, none⟩); rw [hb]⟩
      simp only [st6] at hts
      split at hts
      · rename_i ht; subst ht
        exact key undef 0 b4 (by decide) (by rw [hβ]; rfl) p4 hts
      · split at hts
        · rename_i ht; subst ht
          exact key undef 1 b1 (by decide) (by rw [hβ]; rfl) p1 hts
        · split at hts
          · rename_i ht; subst ht
            exact key undef 2 b3 (by decide) (by rw [hβ]; rfl) p3 hts
          · cases hts
  refine vcs_sound (N := ⟨Try.prog, ⟨[], [], 2⟩, 91, an6, [], wl6⟩) (R := fun _ => True) (S0 := ⟨fun _ _ => False, fun b => (∃ o, F b o) ∨ b = b4, pin, False, True⟩) (Φ := phi) (Pre := pre) mix (fun _ _ h => by cases h) (fun _ _ _ h => by cases h) ⟨fun h => h.elim, fun _ => rfl⟩ (fun _ _ h => by cases h) ?_ (fun _ => ⟨fun _ _ h => h, trivial⟩)
    pre6 (fun σ _ _ => lpEnd σ) st6 3 0 (fun _ => .agg ds) [] hv rfl (fun i b h => (hpin' i b h).1) ?_ a w _ hsim
  · intro k y hk
    simp only [wl6, lk] at hk
    split at hk
    · rename_i hkk
      injection hk with hk; subst hk; subst hkk
      exact cchangedW
    · cases hk
  · intro σ' p' d' ρ' stk' a' w' G' hp hag hk hs'
    unfold lpEnd at hk
    split at hk
    · rename_i h1 h3
      obtain ⟨v1, hv1, _, _, hr1⟩ := hs'.t _ _ _ h1
      obtain ⟨v3, hv3, _, _, hr3⟩ := hs'.t _ _ _ h3
      simp only [condB, List.all_nil, if_true] at hr1 hr3
      obtain ⟨_, rfl⟩ := hr1
      obtain ⟨_, rfl⟩ := hr3
      have e1 := (hs'.m.pin 1 b1 (by show pin 1 = some b1; rw [hpin]; rfl)).2
      have e3 := (hs'.m.pin 2 b3 (by show pin 2 = some b3; rw [hpin]; rfl)).2
      rw [e1] at hv1
      rw [e3] at hv3
      exact hQ a' w' hs'.sz hs'.defers hv1 hv3 hs'.m.below
    · exact hk.elim

/- The statement on copies: it gives true. -/
theorem resOk_bool {w : World} {S : Foot} {τ : Nat → Value} {v : Value} {b : Bool} (h : ResOk w 0 S τ [(false, [(.bool, none)])] v (.bool b)) : v = .bool b := by
  rcases h with ⟨c, hc, h⟩ | ⟨hne, _⟩
  · injection hc with hc _
    subst hc
    unfold CompOk at h
    simp only [Bool.false_eq_true, if_false] at h
    obtain ⟨x, hx, h⟩ := h
    injection hx with hx _
    subst hx
    exact h.1.inv_bool
  · exact absurd rfl hne
theorem same_calls {w : World} {S : Foot} {v1 v2 : Value} {s : AStore} (hS : ∀ b o, S b o → b < w.heap.size) (h1 : Rep w S v1 s.enc) (h2 : Rep w S v2 s.enc) (hs : Has storeT s.enc) :
    Calls Try.prog 31 [v1, v2].toArray w fun e w' => e = .returned (.bool true) ∧ Below w.heap.size w w' := by
  refine (c31.calls rfl w S [v1, v2] [s.enc, s.enc] hS rfl (by
    intro i u x hu hx
    match i with
    | 0 => (simp at hu hx; subst hu; subst hx; exact h1)
    | 1 => (simp at hu hx; subst hu; subst hx; exact h2)
    | i + 2 => simp at hu) (has_cons.2 ⟨_, _, rfl, hs, has_cons.2 ⟨_, _, rfl, hs, has_nil.2 rfl⟩⟩) trivial).mono ?_
  rintro e w' ⟨v', S', τ, rfl, hb, _, _, _, h5, _⟩
  have hphi : phi 31 [s.enc, s.enc] = .bool true := by simp [phi]
  rw [hphi] at h5
  exact ⟨by rw [resOk_bool h5], hb⟩
theorem copy_calls {w : World} {S : Foot} {v : Value} {d : D} (hS : ∀ b o, S b o → b < w.heap.size) (h : Rep w S v d) (hd : Has storeT d) :
    Calls Try.prog 30 [v].toArray w fun e w' => ∃ v' F, e = .returned v' ∧ Below w.heap.size w w' ∧ (∀ b o, F b o → w.heap.size ≤ b ∧ b < w'.heap.size ∧ ∃ cur T, w'.heap[b]? = some (.cells cur T (0, 0))) ∧ Rep w' F v' d := by
  refine (c30F.calls w S [v] [d] hS rfl (by intro i u x hu hx; match i with | 0 => (simp at hu hx; subst hu; subst hx; exact h) | i + 1 => simp at hu) (has_cons.2 ⟨_, _, rfl, hd, has_nil.2 rfl⟩) trivial).mono ?_
  rintro e w' ⟨v', F, rfl, h1, h2, h3, h4⟩
  exact ⟨v', F, rfl, h1, h2, h3⟩

theorem cells_one {w : World} {S : Foot} {vs : List Value} {ds : List D} (h : Rep w S (.agg vs.toArray) (.agg ds)) (hds : HasL (.ofL storeTs) ds) : ∀ v ∈ vs, v.oneCell' = true := by
  intro v hv
  obtain ⟨cs, hcs, hcl, hcr⟩ := h.inv_agg
  obtain rfl : vs = cs := by injection hcs with hcs; simpa using hcs
  obtain ⟨j, hj⟩ := List.getElem?_of_mem hv
  have hdl : ds.length = 9 := by have := hasL_len hds; rw [this]; rfl
  have hjl : j < 9 := by rw [← hdl, ← hcl]; exact (List.getElem?_eq_some_iff.1 hj).1
  obtain ⟨x, hx, hxh⟩ := hasL_get hds j (storeTs[j]'hjl) (by rw [Ty.toL_ofL]; exact List.getElem?_eq_getElem hjl)
  have : ∀ t ∈ storeTs, t.scalar = true := by decide
  exact (hcr j v x hj hx).oneCell hxh (this _ (List.getElem_mem hjl))

theorem rest6_ok {w0 w : World} {S0 S : Foot} {s : AStore} {b1 b3 : Nat} {us ws : List Value} {T1 T3 : TypeId} {a : Act} {R : Ending → World → Prop} (hs : Has storeT s.enc) (h : LwAt w0 S0 S s.enc.toL b1 b3 us ws T1 T3 a w)
    (hR : ∀ w', Below w0.heap.size w0 w' → R (.returned (.bool true)) w') : rest6a.wp Try.prog (bodyPost Try.prog Try.f6 R) a w := by
  have henc : D.agg s.enc.toL = s.enc := rfl
  have hr1 := h.r1
  have hr3 := h.r3
  rw [henc] at hr1 hr3
  have hsz := h.sz
  have hp1 := h.p1
  have hp3 := h.p3
  have l1 : b1 < w.heap.size := (Array.getElem?_eq_some_iff.1 h.h1).1
  have l3 : b3 < w.heap.size := (Array.getElem?_eq_some_iff.1 h.h3).1
  have load1 : ∀ {w' : World} {b : Nat} {vs : List Value} {T : TypeId}, w'.heap[b]? = some (.cells vs.toArray T (0, 0)) → ∀ (j : Nat) v, vs[j]? = some v → w'.cell? ⟨b, 0 + j, none⟩ = some v := by
    intro w' b vs T hh j v hv
    rw [Nat.zero_add, cell_of_row w' b j _ T _ hh]; simpa using hv
  rw [rest6a_eq]
  refine wp_seq (wp_region ?_)
  rw [q2_n]
  show wpOps _ _ _ [0, 1, 2, 3] a w
  obtain ⟨_, _, _, ho⟩ := q2_0
  refine wpOps_val (v := .agg us.toArray) ho (exec_loadN (n := 9) (b := b1) (off := 0) (by kernel_rfl) (by kernel_rfl) (eval_tmp hp1) h.ul (load1 h.h1)) ?_
  obtain ⟨_, _, _, ho⟩ := q2_1
  refine wpOps_call (k := 30) (vs := [.agg us.toArray].toArray) ho (exec_call c30F.enter (map1 (eval_tmp (put_same hsz (by decide))))) (copy_calls h.lt hr1 hs) ?_
  rintro e w1 ⟨v, F, rfl, hb1, hF, hrv⟩
  refine ⟨v, rfl, ?_⟩
  have hrv' := hrv
  rw [← henc] at hrv'
  obtain ⟨cs, rfl, hcl, _⟩ := hrv'.inv_agg
  have hcl9 : cs.length = 9 := by rw [hcl]; rfl
  obtain ⟨_, _, _, ho⟩ := q2_2
  obtain ⟨zs, hzs, hrun⟩ := exec_alloc (P := Try.prog) (a := (a.put (some 14) (.agg us.toArray)).put (some 15) (.agg cs.toArray)) (w := w1) (t := 29) (n := 9) (dst := some 4) (gd := none) (by kernel_rfl)
  refine wpOps_val ho hrun ?_
  obtain ⟨b4, hb4⟩ : ∃ b4, b4 = w1.heap.size := ⟨_, rfl⟩
  rw [← hb4]
  have hw2 : (w1.alloc (.cells zs 29)).heap[b4]? = some (.cells zs 29 (0, 0)) := by rw [hb4]; exact heap_alloc_new w1 _
  obtain ⟨_, _, _, ho⟩ := q2_3
  refine wpOps_skip ho (exec_store (vs := cs) (b := b4) (off := 0) (cur := zs) (T := 29) (by rw [hcl9]; kernel_rfl) (eval_tmp (put_same (n := 91) (by rw [Act.put_size, Act.put_size]; exact hsz) (by decide))) (by rw [eval_tmp (v := .agg cs.toArray) (by rw [put_other (by decide)]; exact put_same (n := 91) (by rw [Act.put_size]; exact hsz) (by decide))]; rfl) hw2 (by omega) (cells_one hrv' (by exact h.has))) ?_
  have hsp : zs.toList.take 0 ++ cs ++ zs.toList.drop (0 + cs.length) = cs := by rw [hcl9]; simp [hzs]
  rw [hsp]
  obtain ⟨w2, hw2e⟩ : ∃ w2, w2 = (w1.alloc (.cells zs 29)).setRow b4 cs.toArray := ⟨_, rfl⟩
  rw [← hw2e]
  have g4 : w2.heap[b4]? = some (.cells cs.toArray 29 (0, 0)) := by rw [hw2e]; exact setRow_heap _ b4 _ _ 29 _ hw2
  have hb2 : Below w1.heap.size w1 w2 := by
    refine ⟨by rw [hw2e]; rfl, by rw [hw2e]; rfl, by rw [hw2e]; rfl, by rw [hw2e]; simp, fun k hk => ?_⟩
    rw [hw2e, setRow_other _ b4 k _ (by omega)]
    exact Below.heap_alloc _ _ _ hk
  have hbw2 : Below w.heap.size w w2 := below_trans hb1 hb2 hb1.size
  have hN : w0.heap.size ≤ w.heap.size := h.below.size
  have hF2 : ∀ b o, F b o → w.heap.size ≤ b ∧ b < w2.heap.size ∧ b ≠ b4 ∧ ∃ cur T, w2.heap[b]? = some (.cells cur T (0, 0)) := by
    intro b o hb
    obtain ⟨q1, q2, cur, T, q3⟩ := hF b o hb
    exact ⟨q1, Nat.lt_of_lt_of_le q2 hb2.size, by omega, cur, T, by rw [hb2.block b q2]; exact q3⟩
  have hrv2 : Rep w2 F (.agg cs.toArray) s.enc := hrv.keep (fun _ _ h => h) (fun b o hb => cell_heap (hb2.block b (hF b o hb).2.1))
  have hr12 : Rep w2 S (.agg us.toArray) s.enc := hr1.keep (fun _ _ h => h) (fun b o hb => cell_heap (hbw2.block b (h.lt b o hb)))
  have hr32 : Rep w2 S (.agg ws.toArray) s.enc := hr3.keep (fun _ _ h => h) (fun b o hb => cell_heap (hbw2.block b (h.lt b o hb)))
  have g1 : w2.heap[b1]? = some (.cells us.toArray T1 (0, 0)) := by rw [hbw2.block _ l1]; exact h.h1
  have g3 : w2.heap[b3]? = some (.cells ws.toArray T3 (0, 0)) := by rw [hbw2.block _ l3]; exact h.h3
  obtain ⟨a2, ha2⟩ : ∃ a2, a2 = ((a.put (some 14) (.agg us.toArray)).put (some 15) (.agg cs.toArray)).put (some 4) (.pointer (some ⟨b4, 0, none⟩)) := ⟨_, rfl⟩
  rw [← ha2]
  have s2 : a2.tmps.size = 91 := by rw [ha2, Act.put_size, Act.put_size, Act.put_size]; exact hsz
  have d2 : a2.defers = [] := by rw [ha2]; exact h.defers
  have t1 : a2.tmps[1]? = some (.pointer (some ⟨b1, 0, none⟩)) := by rw [ha2, put_other (by decide), put_other (by decide), put_other (by decide)]; exact hp1
  have t3 : a2.tmps[3]? = some (.pointer (some ⟨b3, 0, none⟩)) := by rw [ha2, put_other (by decide), put_other (by decide), put_other (by decide)]; exact hp3
  have t4 : a2.tmps[4]? = some (.pointer (some ⟨b4, 0, none⟩)) := by rw [ha2]; exact put_same (n := 91) (by rw [Act.put_size, Act.put_size]; exact hsz) (by decide)
  clear ha2 hsz hp1 hp3
  show (Code.seq _ _).wp _ _ a2 w2
  refine wp_seq (wp_region ?_)
  rw [q3_n]
  show wpOps _ _ _ [0, 1, 2, 3] a2 w2
  obtain ⟨_, _, _, ho⟩ := q3_0
  refine wpOps_val (v := .agg cs.toArray) ho (exec_loadN (n := 9) (b := b4) (off := 0) (by kernel_rfl) (by kernel_rfl) (eval_tmp t4) hcl9 (load1 g4)) ?_
  obtain ⟨_, _, _, ho⟩ := q3_1
  refine wpOps_val (v := .agg ws.toArray) ho (exec_loadN (n := 9) (b := b3) (off := 0) (by kernel_rfl) (by kernel_rfl) (eval_tmp (by rw [put_other (by decide)]; exact t3)) h.wl (load1 g3)) ?_
  obtain ⟨_, _, _, ho⟩ := q3_2
  refine wpOps_call (k := 31) (vs := [.agg cs.toArray, .agg ws.toArray].toArray) ho (exec_call c31.enter (map2 (eval_tmp (by rw [put_other (by decide)]; exact put_same s2 (by decide))) (eval_tmp (put_same (n := 91) (by rw [Act.put_size]; exact s2) (by decide)))))
    (same_calls (S := fun b o => F b o ∨ S b o) (fun b o hb => hb.elim (fun hb => (hF2 b o hb).2.1) (fun hb => Nat.lt_of_lt_of_le (h.lt b o hb) hbw2.size)) (hrv2.keep (fun _ _ h => .inl h) (fun _ _ _ => rfl)) (hr32.keep (fun _ _ h => .inr h) (fun _ _ _ => rfl)) hs) ?_
  rintro e w3 ⟨rfl, hb3⟩
  refine ⟨_, rfl, ?_⟩
  obtain ⟨_, _, _, ho⟩ := q3_3
  refine wpOps_val ho exec_assign ?_
  rw [eval_tmp (v := .bool true) (put_same (n := 91) (by rw [Act.put_size, Act.put_size]; exact s2) (by decide))]
  have hbw3 : Below w.heap.size w w3 := below_trans hbw2 hb3 hbw2.size
  obtain ⟨a3, ha3⟩ : ∃ a3, a3 = (((a2.put (some 16) (.agg cs.toArray)).put (some 17) (.agg ws.toArray)).put (some 18) (.bool true)).put (some 5) (.bool true) := ⟨_, rfl⟩
  rw [← ha3]
  have s3 : a3.tmps.size = 91 := by rw [ha3, Act.put_size, Act.put_size, Act.put_size, Act.put_size]; exact s2
  have d3 : a3.defers = [] := by rw [ha3]; exact d2
  have u1 : a3.tmps[1]? = some (.pointer (some ⟨b1, 0, none⟩)) := by rw [ha3, put_other (by decide), put_other (by decide), put_other (by decide), put_other (by decide)]; exact t1
  have u3 : a3.tmps[3]? = some (.pointer (some ⟨b3, 0, none⟩)) := by rw [ha3, put_other (by decide), put_other (by decide), put_other (by decide), put_other (by decide)]; exact t3
  have u4 : a3.tmps[4]? = some (.pointer (some ⟨b4, 0, none⟩)) := by rw [ha3, put_other (by decide), put_other (by decide), put_other (by decide), put_other (by decide)]; exact t4
  have u5 : a3.tmps[5]? = some (.bool true) := by rw [ha3]; exact put_same (n := 91) (by rw [Act.put_size, Act.put_size, Act.put_size]; exact s2) (by decide)
  clear ha3
  show (Code.seq (Code.seq _ _) _).wp _ _ a3 w3
  refine wp_seq (wp_seq (wp_region ?_))
  rw [q4_n]
  show wpOps _ _ _ [0, 1] a3 w3
  obtain ⟨_, _, _, ho⟩ := q4_0
  refine wpOps_val ho exec_move ?_
  rw [eval_tmp u5]
  obtain ⟨_, _, _, ho⟩ := q4_1
  refine wpOps_val ho (exec_not (b := true) (eval_tmp (put_same s3 (by decide)))) ?_
  show (Code.cond _ _ _).wp _ _ _ w3
  refine wp_cond (t := false) (eval_tmp (put_same (n := 91) (by rw [Act.put_size]; exact s3) (by decide))) ?_
  simp only [Bool.false_eq_true, if_false]
  refine wp_skip ?_
  show rest6b.wp _ _ _ w3
  rw [rest6b_eq]
  have g43 : w3.heap[b4]? = some (.cells cs.toArray 29 (0, 0)) := by rw [hb3.block b4 (Array.getElem?_eq_some_iff.1 g4).1]; exact g4
  refine loops6 (b1 := b1) (b3 := b3) (b4 := b4) (F := F) (cs := cs) (T4 := 29) (ds := s.enc.toL) (by rw [Act.put_size, Act.put_size]; exact s3) d3 (by rw [put_other (by decide), put_other (by decide)]; exact u1) (by rw [put_other (by decide), put_other (by decide)]; exact u3) (by rw [put_other (by decide), put_other (by decide)]; exact u4) g43
    (fun b o hb => by
      obtain ⟨q1, q2, q3, cur, T, q4⟩ := hF2 b o hb
      exact ⟨Nat.lt_of_lt_of_le q2 hb3.size, q3, cur, T, by rw [hb3.block b q2]; exact q4⟩)
    (by rw [henc]; exact hrv2.keep (fun _ _ h => h) (fun b o hb => cell_heap (hb3.block b (hF2 b o hb).2.1))) h.has ?_
  intro a4 w4 s4 d4 x1 x3 hbx
  have hmu : ∀ k, k < w.heap.size → ¬ ((∃ o, F k o) ∨ k = b4) := by
    rintro k hk (⟨o, ho⟩ | rfl)
    · have := (hF2 k o ho).1; omega
    · have := hb1.size; omega
  have hbw4 : Below w.heap.size w w4 := ⟨hbx.os.trans hbw3.os, hbx.tape.trans hbw3.tape, hbx.output.trans hbw3.output, Nat.le_trans hbw3.size hbx.size, fun k hk => (hbx.block k (Nat.lt_of_lt_of_le hk hbw3.size) (hmu k hk)).trans (hbw3.block k hk)⟩
  have hr14 : Rep w4 S (.agg us.toArray) s.enc := hr1.keep (fun _ _ h => h) (fun b o hb => cell_heap (hbw4.block b (h.lt b o hb)))
  have hr34 : Rep w4 S (.agg ws.toArray) s.enc := hr3.keep (fun _ _ h => h) (fun b o hb => cell_heap (hbw4.block b (h.lt b o hb)))
  have k1 : w4.heap[b1]? = some (.cells us.toArray T1 (0, 0)) := by rw [hbw4.block _ l1]; exact h.h1
  have k3 : w4.heap[b3]? = some (.cells ws.toArray T3 (0, 0)) := by rw [hbw4.block _ l3]; exact h.h3
  refine wp_seq (wp_region ?_)
  rw [q24_n]
  show wpOps _ _ _ [0, 1, 2, 3] a4 w4
  obtain ⟨_, _, _, ho⟩ := q24_0
  refine wpOps_val (v := .agg us.toArray) ho (exec_loadN (n := 9) (b := b1) (off := 0) (by kernel_rfl) (by kernel_rfl) (eval_tmp x1) h.ul (load1 k1)) ?_
  obtain ⟨_, _, _, ho⟩ := q24_1
  refine wpOps_val (v := .agg ws.toArray) ho (exec_loadN (n := 9) (b := b3) (off := 0) (by kernel_rfl) (by kernel_rfl) (eval_tmp (by rw [put_other (by decide)]; exact x3)) h.wl (load1 k3)) ?_
  obtain ⟨_, _, _, ho⟩ := q24_2
  refine wpOps_call (k := 31) (vs := [.agg us.toArray, .agg ws.toArray].toArray) ho (exec_call c31.enter (map2 (eval_tmp (by rw [put_other (by decide)]; exact put_same s4 (by decide))) (eval_tmp (put_same (n := 91) (by rw [Act.put_size]; exact s4) (by decide)))))
    (same_calls (S := S) (fun b o hb => Nat.lt_of_lt_of_le (h.lt b o hb) hbw4.size) hr14 hr34 hs) ?_
  rintro e w5 ⟨rfl, hb5⟩
  refine ⟨_, rfl, ?_⟩
  obtain ⟨_, _, _, ho⟩ := q24_3
  refine wpOps_val ho exec_assign ?_
  rw [eval_tmp (v := .bool true) (put_same (n := 91) (by rw [Act.put_size, Act.put_size]; exact s4) (by decide))]
  show (Code.seq _ _).wp _ _ _ w5
  refine tail25 (by rw [Act.put_size, Act.put_size, Act.put_size, Act.put_size]; exact s4) d4 (put_same (n := 91) (by rw [Act.put_size, Act.put_size, Act.put_size]; exact s4) (by decide)) ?_
  intro w6 hb6
  refine hR w6 (below_trans (below_trans (below_trans h.below hbw4 hN) hb5 ?_) hb6 ?_)
  · exact Nat.le_trans hN hbw4.size
  · exact Nat.le_trans (Nat.le_trans hN hbw4.size) hb5.size

def s6 : Sig := ⟨[storeT], [(false, [(.bool, none)])], none⟩
/-- The statement on copies gives true. -/
theorem c6 : PureFn Try.prog 6 s6 (fun _ => True) (fun _ => .bool true) where
  enter args w := by
    unfold callFunc
    have h1 := body_cut (fn := Try.f6) (by kernel_rfl) 2
    have h2 : Try.f6.name ≠ "runtime.NumGoroutine" := by decide
    simp [Try.func6, h1, h2]
  calls _ w S vs ds hSlt hlen hrep hty hpre := by
    obtain ⟨d0, _, rfl, hd0, rfl⟩ := hty
    obtain ⟨s, rfl, hs⟩ := AStore.cases hd0
    have hv : vc6A.holds phi pre (fun d => d = .list [.list s.enc.toL, .list s.enc.toL]) (fun i => [s.enc].getD i .top) [] := by
      have hC : ∀ d, phi 15 [d] = d := fun _ => rfl
      simp [vc6A, vh_call, vh_ret, den, U.den, upd, condB, pre, toL_list, toL_agg, AStore.toL, hC]
    refine calls_cut (cs := ⟨tb50, [], 0⟩) (anns := []) (fr := False) (ps := [storeT]) (m := 2) (k := fun σ _ _ => lwEnd σ) (v := vc6A) Try.func6 (by kernel_rfl) mix con50 (fun h => h.elim) (by decide) (by kernel_rfl) hv hSlt hlen hrep (has_cons.2 ⟨_, _, rfl, hd0, has_nil.2 rfl⟩) (Nat.le_of_ble_eq_true (by kernel_rfl)) ?_
    intro σ' p' d' ρ' stk' a w' G' hk hsim
    obtain ⟨b1, b3, us, ws, T1, T3, hlw⟩ := lwEnd_ok hk hsim
    refine rest6_ok hd0 hlw ?_
    intro w2 hb
    refine ⟨.bool true, S, fun _ => .nilIface, rfl, hb, fun _ _ h => h, fun b o h => Nat.lt_of_lt_of_le (hSlt b o h) hb.size, fun _ _ h => .inl h, .inl ⟨_, rfl, ?_⟩, fun j b hj => by simp [s6, ownIdx] at hj, fun j k b hj => by simp [s6, ownIdx] at hj, fun j hj => by simp [s6, ownIdx] at hj⟩
    unfold CompOk
    simp only [Bool.false_eq_true, if_false]
    exact ⟨_, rfl, .bool true, has_bool.2 ⟨true, rfl⟩⟩
  ocalls ob h := by cases h
  pcalls ob h := by cases h
end Go.Proofs.Ytjpkeliliahjoaa
