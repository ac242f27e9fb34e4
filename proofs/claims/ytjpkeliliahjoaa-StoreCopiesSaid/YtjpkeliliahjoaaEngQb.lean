/-
  A write into what readings lean on: numbers for numbers, truths for truths; all else that leaned on it reads as something alike.
-/
import Derived.Test.YtjpkeliliahjoaaEngQa
namespace Go.Eng
open Go Go.RowKit

/-- The same, or another number of the kind, or another truth. -/
def Cls (v v' : Value) : Prop := v' = v ∨ (∃ k n n', v = .int k n ∧ v' = .int k n' ∧ inK k n') ∨ ∃ b b', v = .bool b ∧ v' = .bool b'

theorem choose_list {α : Type} {Q : Nat → α → Prop} : ∀ n, (∀ i, i < n → ∃ x, Q i x) → ∃ l : List α, l.length = n ∧ ∀ (i : Nat) x, l[i]? = some x → Q i x
  | 0, _ => ⟨[], rfl, by simp⟩
  | n + 1, h => by
    obtain ⟨l, h1, h2⟩ := choose_list n (fun i hi => h i (by omega))
    obtain ⟨x, hx⟩ := h n (by omega)
    refine ⟨l ++ [x], by simp [h1], fun i y hy => ?_⟩
    by_cases hi : i < n
    · rw [List.getElem?_append_left (by omega)] at hy; exact h2 i y hy
    · rw [List.getElem?_append_right (by omega)] at hy
      have hil := (List.getElem?_eq_some_iff.1 hy).1
      simp at hil
      have : i = n := by omega
      subst this
      simp [h1] at hy
      subst hy; exact hx

/-- Alike: of the same types, as long. -/
structure Kin (d d' : D) : Prop where
  has : ∀ t, Has t d → Has t d'
  len : d'.toL.length = d.toL.length
  agg : (∃ l, d' = .agg l) → ∃ l, d = .agg l
theorem Kin.refl (d : D) : Kin d d := ⟨fun _ h => h, rfl, fun h => h⟩

theorem hasL_kin : ∀ {fs : Ty} {l l' : List D}, HasL fs l → l'.length = l.length → (∀ (i : Nat) x x', l[i]? = some x → l'[i]? = some x' → ∀ t, Has t x → Has t x') → HasL fs l'
  | .nil, l, l', h, hl, _ => by
    rw [has_nil.1 h] at hl
    exact has_nil.2 (List.eq_nil_of_length_eq_zero (by simpa using hl))
  | .cons a b, l, l', h, hl, hk => by
    obtain ⟨x, r, rfl, hx, hr⟩ := has_cons.1 h
    cases l' with
    | nil => simp at hl
    | cons x' r' => exact has_cons.2 ⟨x', r', rfl, hk 0 x x' rfl rfl a hx, hasL_kin hr (by simpa using hl) fun i y y' hy hy' => hk (i + 1) y y' (by simpa using hy) (by simpa using hy')⟩
  | .int _, _, _, h, _, _ | .bool, _, _, h, _, _ | .str, _, _, h, _, _ | .list _, _, _, h, _, _ | .agg _, _, _, h, _, _ | .tup _, _, _, h, _, _ | .box _, _, _, h, _, _ | .ptr _, _, _, h, _, _ | .fn _ _, _, _, h, _, _ => h.elim

theorem cls_rep {w w' : World} {S : Foot} {v v' : Value} {d : D} (hv : Rep w S v d) (h : Cls v v') (h0 : ∃ d0, Rep w' S v d0 ∧ Kin d d0) : ∃ d', Rep w' S v' d' ∧ Kin d d' := by
  rcases h with rfl | ⟨k, n, n', rfl, rfl, hn⟩ | ⟨b, b', rfl, rfl⟩
  · exact h0
  · cases hv
    refine ⟨_, .int k n', fun t ht => ?_, rfl, by rintro ⟨l, hl⟩; cases hl⟩
    cases t <;> try simp [has_int, has_bool, has_str, has_list, has_agg, has_tup, has_box, has_ptr, has_fn] at ht
    · obtain ⟨_, ⟨rfl, _⟩, _⟩ := ht; exact has_int.2 ⟨n', rfl, hn⟩
    · exact ht.elim
    · exact ht.elim
  · cases hv
    refine ⟨_, .bool b', fun t ht => ?_, rfl, by rintro ⟨l, hl⟩; cases hl⟩
    cases t <;> try simp [has_int, has_bool, has_str, has_list, has_agg, has_tup, has_box, has_ptr, has_fn] at ht
    · exact has_bool.2 ⟨b', rfl⟩
    · exact ht.elim
    · exact ht.elim

theorem cells_of {d : D} : (∃ l, d = .agg l) ∨ (d.cells = [d] ∧ ∀ l, d ≠ .agg l) := by cases d <;> first | exact .inl ⟨_, rfl⟩ | exact .inr ⟨rfl, fun _ h => by cases h⟩

theorem Rep.hv {w w' : World} {S : Foot} {v : Value} {d : D} (hc : ∀ b o v, S b o → w.cell? ⟨b, o, none⟩ = some v → ∃ v', w'.cell? ⟨b, o, none⟩ = some v' ∧ Cls v v') (h : Rep w S v d) : ∃ d', Rep w' S v d' ∧ Kin d d' := by
  induction h with
  | int k n => exact ⟨_, .int k n, Kin.refl _⟩
  | bool b => exact ⟨_, .bool b, Kin.refl _⟩
  | str s => exact ⟨_, .str s, Kin.refl _⟩
  | nilp => exact ⟨_, .nilp, Kin.refl _⟩
  | nil a cap => exact ⟨_, .nil a cap, Kin.refl _⟩
  | agg cs ds hl _ ih =>
    obtain ⟨l, h1, h2⟩ := choose_list (Q := fun i x => ∀ v d, cs[i]? = some v → ds[i]? = some d → Rep w' S v x ∧ Kin d x) ds.length (fun i hi => by
      obtain ⟨d', h3, h4⟩ := ih i (cs[i]'(by omega)) ds[i] (List.getElem?_eq_getElem _) (List.getElem?_eq_getElem hi)
      refine ⟨d', fun v d hv hd => ?_⟩
      rw [List.getElem?_eq_getElem (by omega)] at hv hd
      injection hv with hv; injection hd with hd; subst hv; subst hd
      exact ⟨h3, h4⟩)
    refine ⟨.agg l, .agg cs l (by omega) fun i v d hv hd => (h2 i d hd v (ds[i]'(by have := (List.getElem?_eq_some_iff.1 hv).1; omega)) hv (List.getElem?_eq_getElem _)).1, fun t ht => ?_, h1, fun _ => ⟨_, rfl⟩⟩
    cases t <;> try simp [has_int, has_bool, has_str, has_list, has_agg, has_tup, has_box, has_ptr, has_fn] at ht
    · exact has_agg.2 ⟨_, rfl, hasL_kin ht h1 fun i x x' hx hx' t htx => (h2 i x' hx' (cs[i]'(by have := (List.getElem?_eq_some_iff.1 hx).1; omega)) x (List.getElem?_eq_getElem _) hx).2.has t htx⟩
    · exact ht.elim
    · exact ht.elim
  | tup cs ds hl _ ih =>
    obtain ⟨l, h1, h2⟩ := choose_list (Q := fun i x => ∀ v d, cs[i]? = some v → ds[i]? = some d → Rep w' S v x ∧ Kin d x) ds.length (fun i hi => by
      obtain ⟨d', h3, h4⟩ := ih i (cs[i]'(by omega)) ds[i] (List.getElem?_eq_getElem _) (List.getElem?_eq_getElem hi)
      refine ⟨d', fun v d hv hd => ?_⟩
      rw [List.getElem?_eq_getElem (by omega)] at hv hd
      injection hv with hv; injection hd with hd; subst hv; subst hd
      exact ⟨h3, h4⟩)
    refine ⟨.tup l, .tup cs l (by omega) fun i v d hv hd => (h2 i d hd v (ds[i]'(by have := (List.getElem?_eq_some_iff.1 hv).1; omega)) hv (List.getElem?_eq_getElem _)).1, fun t ht => ?_, h1, by rintro ⟨l, hl⟩; cases hl⟩
    cases t <;> try simp [has_int, has_bool, has_str, has_list, has_agg, has_tup, has_box, has_ptr, has_fn] at ht
    · exact has_tup.2 ⟨_, rfl, hasL_kin ht h1 fun i x x' hx hx' t htx => (h2 i x' hx' (cs[i]'(by have := (List.getElem?_eq_some_iff.1 hx).1; omega)) x (List.getElem?_eq_getElem _) hx).2.has t htx⟩
    · exact ht.elim
    · exact ht.elim
  | fn f cs ds hl _ ih =>
    obtain ⟨l, h1, h2⟩ := choose_list (Q := fun i x => ∀ v d, cs[i]? = some v → ds[i]? = some d → Rep w' S v x ∧ Kin d x) ds.length (fun i hi => by
      obtain ⟨d', h3, h4⟩ := ih i (cs[i]'(by omega)) ds[i] (List.getElem?_eq_getElem _) (List.getElem?_eq_getElem hi)
      refine ⟨d', fun v d hv hd => ?_⟩
      rw [List.getElem?_eq_getElem (by omega)] at hv hd
      injection hv with hv; injection hd with hd; subst hv; subst hd
      exact ⟨h3, h4⟩)
    refine ⟨.fn f l, .fn f cs l (by omega) fun i v d hv hd => (h2 i d hd v (ds[i]'(by have := (List.getElem?_eq_some_iff.1 hv).1; omega)) hv (List.getElem?_eq_getElem _)).1, fun t ht => ?_, h1, by rintro ⟨l, hl⟩; cases hl⟩
    cases t <;> try simp [has_int, has_bool, has_str, has_list, has_agg, has_tup, has_box, has_ptr, has_fn] at ht
    · obtain ⟨_, ⟨rfl, rfl⟩, ht⟩ := ht
      exact has_fn.2 ⟨_, rfl, hasL_kin ht h1 fun i x x' hx hx' t htx => (h2 i x' hx' (cs[i]'(by have := (List.getElem?_eq_some_iff.1 hx).1; omega)) x (List.getElem?_eq_getElem _) hx).2.has t htx⟩
    · exact ht.elim
    · exact ht.elim
  | ptr b cs ds hl hS hcs _ ih =>
    obtain ⟨cs', hx1, hx2⟩ := choose_list (Q := fun i x => w'.cell? ⟨b, i, none⟩ = some x ∧ ∀ v, cs[i]? = some v → Cls v x) cs.length (fun i hi => by
      obtain ⟨v', h3, h4⟩ := hc b i cs[i] (hS i (by omega)) (hcs i _ (List.getElem?_eq_getElem hi))
      exact ⟨v', h3, fun v hv => by rw [List.getElem?_eq_getElem hi] at hv; injection hv with hv; subst hv; exact h4⟩)
    obtain ⟨l, h1, h2⟩ := choose_list (Q := fun i x => ∀ v d, cs'[i]? = some v → ds[i]? = some d → Rep w' S v x ∧ Kin d x) ds.length (fun i hi => by
      have hic : i < cs.length := by omega
      obtain ⟨d', h3, h4⟩ := cls_rep (w' := w') (ih i cs[i] ds[i] (List.getElem?_eq_getElem _) (List.getElem?_eq_getElem hi) |> fun _ => (by assumption : ∀ (i : Nat) v d, cs[i]? = some v → ds[i]? = some d → Rep w S v d) i cs[i] ds[i] (List.getElem?_eq_getElem _) (List.getElem?_eq_getElem hi)) ((hx2 i (cs'[i]'(by omega)) (List.getElem?_eq_getElem _)).2 _ (List.getElem?_eq_getElem hic))
        (ih i cs[i] ds[i] (List.getElem?_eq_getElem _) (List.getElem?_eq_getElem hi))
      refine ⟨d', fun v d hv hd => ?_⟩
      rw [List.getElem?_eq_getElem (by omega)] at hv hd
      injection hv with hv; injection hd with hd; subst hv; subst hd
      exact ⟨h3, h4⟩)
    refine ⟨.ptr l, .ptr b cs' l (by omega) (fun i hi => hS i (by omega)) (fun i v hv => (hx2 i v hv).1) (fun i v d hv hd => (h2 i d hd v (ds[i]'(by have := (List.getElem?_eq_some_iff.1 hv).1; omega)) hv (List.getElem?_eq_getElem _)).1), fun t ht => ?_, h1, by rintro ⟨l, hl⟩; cases hl⟩
    have key : ∀ fs, HasL fs ds → HasL fs l := fun fs ht => hasL_kin ht h1 fun i x x' hx hx' t htx => (h2 i x' hx' (cs'[i]'(by have := (List.getElem?_eq_some_iff.1 hx).1; omega)) x (List.getElem?_eq_getElem _) hx).2.has t htx
    cases t <;> try simp [has_int, has_bool, has_str, has_list, has_agg, has_tup, has_box, has_ptr, has_fn] at ht
    · exact has_box.2 ⟨_, rfl, key _ ht⟩
    · exact has_ptr.2 (.inr ⟨_, rfl, key _ ht⟩)
    · exact ht.elim
    · exact ht.elim
  | list b off cap sz xs ds hsz hne hcap hl hS hcs hw hr ih =>
    obtain ⟨xs', hx1, hx2⟩ := choose_list (Q := fun q x => w'.cell? ⟨b, off + q, none⟩ = some x ∧ ∀ v, xs[q]? = some v → Cls v x) xs.length (fun q hq => by
      obtain ⟨v', h3, h4⟩ := hc b (off + q) xs[q] (hS q hq) (hcs q _ (List.getElem?_eq_getElem hq))
      exact ⟨v', h3, fun v hv => by rw [List.getElem?_eq_getElem hq] at hv; injection hv with hv; subst hv; exact h4⟩)
    obtain ⟨l, h1, h2⟩ := choose_list (Q := fun i x => ∀ d, ds[i]? = some d → (∀ t, Has t d → Has t x) ∧ x.cells.length = sz ∧ ∀ (j : Nat) v c, x.cells[j]? = some c → xs'[i * sz + j]? = some v → Rep w' S v c) ds.length (fun i hi => by
      have hdi : ds[i]? = some ds[i] := List.getElem?_eq_getElem hi
      have hwi := hw i _ hdi
      have hbound : (i + 1) * sz ≤ ds.length * sz := Nat.mul_le_mul_right _ hi
      rw [Nat.add_mul] at hbound
      obtain ⟨cs, hcl, hcq⟩ := choose_list (Q := fun j c' => ∀ c v', ds[i].cells[j]? = some c → xs'[i * sz + j]? = some v' → Rep w' S v' c' ∧ Kin c c') sz (fun j hj => by
        have hq : i * sz + j < xs.length := by omega
        have hcj : ds[i].cells[j]? = some (ds[i].cells[j]'(by omega)) := List.getElem?_eq_getElem _
        obtain ⟨c', h3, h4⟩ := cls_rep (w' := w') (hr i _ j _ _ hdi hcj (List.getElem?_eq_getElem hq)) ((hx2 (i * sz + j) (xs'[i * sz + j]'(by omega)) (List.getElem?_eq_getElem _)).2 _ (List.getElem?_eq_getElem hq))
          (ih i _ j _ _ hdi hcj (List.getElem?_eq_getElem hq))
        refine ⟨c', fun c v' hc' hv' => ?_⟩
        rw [hcj] at hc'
        rw [List.getElem?_eq_getElem (by omega)] at hv'
        injection hc' with hc'; injection hv' with hv'; subst hc'; subst hv'
        exact ⟨h3, h4⟩)
      have get' : ∀ (j : Nat) c, cs[j]? = some c → ∀ v', xs'[i * sz + j]? = some v' → Rep w' S v' c := fun j c hj v' hv' => by
        have hjl : j < sz := by rw [← hcl]; exact (List.getElem?_eq_some_iff.1 hj).1
        exact (hcq j c hj _ v' (List.getElem?_eq_getElem (by omega)) hv').1
      have kin' : ∀ (j : Nat) c c', ds[i].cells[j]? = some c → cs[j]? = some c' → Kin c c' := fun j c c' hj hj' => by
        have hjl : j < sz := by rw [← hcl]; exact (List.getElem?_eq_some_iff.1 hj').1
        exact (hcq j c' hj' c _ hj (List.getElem?_eq_getElem (by omega))).2
      rcases cells_of (d := ds[i]) with ⟨l0, hl0⟩ | ⟨hone, hna⟩
      · refine ⟨.agg cs, fun d hd => ?_⟩
        rw [hdi] at hd; injection hd with hd; subst hd
        refine ⟨fun t ht => ?_, hcl, fun j v c hj hv => get' j c hj v hv⟩
        rw [hl0] at ht kin' hwi
        cases t <;> try simp [has_int, has_bool, has_str, has_list, has_agg, has_tup, has_box, has_ptr, has_fn] at ht
        · exact has_agg.2 ⟨_, rfl, hasL_kin ht (hcl.trans hwi.symm) fun j x x' hx hx' t htx => (kin' j x x' hx hx').has t htx⟩
        · exact ht.elim
        · exact ht.elim
      · have hs1 : sz = 1 := by rw [← hwi, hone]; rfl
        obtain ⟨c', rfl⟩ : ∃ c', cs = [c'] := List.length_eq_one_iff.1 (hcl.trans hs1)
        have hk := kin' 0 ds[i] c' (by rw [hone]; rfl) rfl
        have hcc : c'.cells = [c'] := by
          rcases cells_of (d := c') with h | h
          · obtain ⟨l0, hl0⟩ := hk.agg h
            exact absurd hl0 (hna l0)
          · exact h.1
        refine ⟨c', fun d hd => ?_⟩
        rw [hdi] at hd; injection hd with hd; subst hd
        refine ⟨hk.has, by rw [hcc, hs1]; rfl, fun j v c hj hv => ?_⟩
        rw [hcc] at hj
        exact get' j c hj v hv)
    have hlne : l ≠ [] := by intro h; rw [h] at h1; exact hne (List.eq_nil_of_length_eq_zero h1.symm)
    refine ⟨.list l, ?_, fun t ht => ?_, h1, by rintro ⟨l, hl⟩; cases hl⟩
    · rw [← h1]
      refine .list b off cap sz xs' l hsz hlne (by omega) (by rw [hx1, hl, h1]) (fun i hi => hS i (by omega)) (fun i v hv => (hx2 i v hv).1) (fun i d hd => ?_) (fun i d j v c hd hj hv => ?_)
      · have hil : i < ds.length := by rw [← h1]; exact (List.getElem?_eq_some_iff.1 hd).1
        exact (h2 i d hd _ (List.getElem?_eq_getElem hil)).2.1
      · have hil : i < ds.length := by rw [← h1]; exact (List.getElem?_eq_some_iff.1 hd).1
        exact (h2 i d hd _ (List.getElem?_eq_getElem hil)).2.2 j v c hj hv
    · cases t <;> try simp [has_int, has_bool, has_str, has_list, has_agg, has_tup, has_box, has_ptr, has_fn] at ht
      · refine has_list.2 ⟨l, rfl, by rw [h1]; exact ht.1, fun x hx => ?_⟩
        obtain ⟨i, hi⟩ := List.getElem?_of_mem hx
        have hil : i < ds.length := by rw [← h1]; exact (List.getElem?_eq_some_iff.1 hi).1
        exact (h2 i x hi _ (List.getElem?_eq_getElem hil)).1 _ (ht.2 _ (List.getElem_mem hil))
      · exact ht.elim
      · exact ht.elim
end Go.Eng
