/-
  What leaves a call, or is handed to one: cells, and what they own; tags that are all different.
-/
import Derived.Test.YtjpkeliliahjoaaEngL
namespace Go.Eng
open Go Go.RowKit

theorem nodupTags_ne : ∀ {l : List (Option Tag)}, nodupTags l = true → ∀ (i j : Nat) g, l[i]? = some (some g) → l[j]? = some (some g) → i = j
  | [], _, i, j, g, h, _ => by simp at h
  | x :: r, hn, i, j, g, hi, hj => by
    have hr : nodupTags r = true := by cases x <;> simp [nodupTags] at hn <;> first | exact hn | exact hn.2
    have hx : x = some g → some g ∉ r := by
      rintro rfl
      simp only [nodupTags, Bool.and_eq_true, Bool.not_eq_true'] at hn
      simpa using hn.1
    cases i with
    | zero =>
      cases j with
      | zero => rfl
      | succ j =>
        simp at hi hj
        exact absurd (List.mem_of_getElem? hj) (hx hi)
    | succ i =>
      cases j with
      | zero =>
        simp at hi hj
        exact absurd (List.mem_of_getElem? hi) (hx hj)
      | succ j => rw [nodupTags_ne hr i j g (by simpa using hi) (by simpa using hj)]

section
variable {P : Program} {C : Cx} {w w0 : World} {S0 : Base} {G : Gh} {σ : St} {a : Act} {n : Nat}

/-- The owned slices of a result: by their numbers. -/
def τOf (G : Gh) (l : OwnL) : Nat → Value := fun j => match lk l j with
  | some (some g) => G.τ g
  | _ => .slice none 0 0

theorem lk_of_mem {α β : Type} [DecidableEq α] : ∀ {l : List (α × β)} {k : α} {v : β}, (l.map (·.1)).Nodup → (k, v) ∈ l → lk l k = some v
  | [], _, _, _, h => by simp at h
  | (a, b) :: l, k, v, hn, h => by
    simp only [List.map_cons, List.nodup_cons] at hn
    simp only [lk]
    rcases List.mem_cons.1 h with h | h
    · simp only [Prod.mk.injEq] at h; obtain ⟨rfl, rfl⟩ := h; simp
    · have : k ≠ a := fun e => hn.1 (List.mem_map.2 ⟨(k, v), h, e⟩)
      rw [if_neg this]; exact lk_of_mem hn.2 h

theorem retCell_ok {r : RCell} {c : SC} {e : E} {l L : OwnL} {v : Value} (hm : SimM w0 S0 C G σ w) (h : retCell σ r c = some (e, l)) (hr : RSC C w G c v) (hL : ∀ x ∈ l, x ∈ L) (hn : (L.map (·.1)).Nodup) :
    CellOk w 0 G.S (τOf G L) r v (den C.ρ e) := by
  obtain ⟨t, _ | ⟨j, T⟩⟩ := r
  · simp only [retCell] at h
    split at h
    · rename_i e' t' hd
      split at h
      · rename_i htt
        injection h with h; simp only [Prod.mk.injEq] at h; obtain ⟨rfl, rfl⟩ := h
        subst htt
        exact (asData_ok hd hr).2
      · cases h
    · cases h
  · simp only [retCell] at h
    split at h
    · rename_i t'
      split at h
      · rename_i hc
        obtain ⟨rfl, hpos⟩ := hc
        injection h with h; simp only [Prod.mk.injEq] at h; obtain ⟨rfl, rfl⟩ := h
        have hτ : τOf G L j = .slice none 0 0 := by unfold τOf; rw [lk_of_mem hn (hL (j, none) (by simp))]
        refine ⟨by rw [hτ]; exact hr, ⟨has_list.2 ⟨[], rfl, lenOk_zero _, by simp⟩, hpos, [], [], rfl, ?_, ?_, by simp⟩⟩
        · rw [hτ]; exact World.ownsRow_nil w _ _ _
        · rw [hτ]; intro b hb; cases hb
      · cases h
    · rename_i g e0 t'
      split at h
      · rename_i e1 T' t'' hl
        split at h
        · rename_i hc
          obtain ⟨rfl, rfl, rfl, hpos, hge, hje⟩ := hc
          injection h with h; simp only [Prod.mk.injEq] at h; obtain ⟨rfl, rfl⟩ := h
          have hτ : τOf G L j = G.τ g := by unfold τOf; rw [lk_of_mem hn (hL (j, some g) (by simp))]
          have ho := hm.own _ _ _ _ hl
          refine ⟨by rw [hτ]; exact hr.2.2.2.2, ⟨ho.has, hpos, ?_⟩⟩
          rw [hτ]; have e : exN j = g.ex := by rw [hje, hge]
          rw [e]; exact ho.own
        · cases h
      · cases h
    · rename_i g t'
      split at h
      · rename_i e1 T' t'' hl
        split at h
        · rename_i hc
          obtain ⟨rfl, rfl, rfl, hpos, hge, hje⟩ := hc
          injection h with h; simp only [Prod.mk.injEq] at h; obtain ⟨rfl, rfl⟩ := h
          have hτ : τOf G L j = G.τ g := by unfold τOf; rw [lk_of_mem hn (hL (j, some g) (by simp))]
          have ho := hm.own _ _ _ _ hl
          refine ⟨by rw [hτ]; exact hr.2.1, ⟨ho.has, hpos, ?_⟩⟩
          rw [hτ]; have e : exN j = g.ex := by rw [hje, hge]
          rw [e]; exact ho.own
        · cases h
      · cases h
    · cases h

theorem retCells_ok {L : OwnL} (hm : SimM w0 S0 C G σ w) (hn : (L.map (·.1)).Nodup) : ∀ {rs : List RCell} {cs : List SC} {es : List E} {l : OwnL} {vs : List Value}, retCells σ rs cs = some (es, l) → RSCs C w G cs vs → (∀ x ∈ l, x ∈ L) →
    es.length = rs.length ∧ vs.length = rs.length ∧ ∀ (i : Nat) r v e, rs[i]? = some r → vs[i]? = some v → es[i]? = some e → CellOk w 0 G.S (τOf G L) r v (den C.ρ e)
  | [], [], es, l, vs, h, hr, _ => by
    simp only [retCells, Option.some.injEq, Prod.mk.injEq] at h
    obtain ⟨rfl, rfl⟩ := h
    exact ⟨rfl, by have := hr.1; simpa using this, by intro i r v e hi; simp at hi⟩
  | [], _ :: _, _, _, _, h, _, _ => by cases h
  | _ :: _, [], _, _, _, h, _, _ => by cases h
  | r :: rs, c :: cs, es, l, vs, h, hr, hL => by
    simp only [retCells] at h
    split at h
    · rename_i e l1 es' l2 h1 h2
      injection h with h; simp only [Prod.mk.injEq] at h; obtain ⟨rfl, rfl⟩ := h
      cases vs with
      | nil => have := hr.1; simp at this
      | cons v vs =>
        have hr' : RSCs C w G cs vs := ⟨by have := hr.1; simpa using this, fun i c v hi hv => hr.2 (i + 1) c v (by simpa using hi) (by simpa using hv)⟩
        obtain ⟨k1, k2, k3⟩ := retCells_ok hm hn h2 hr' (fun x hx => hL x (by simp [hx]))
        refine ⟨by simp [k1], by simp [k2], fun i r' v' e' hi hv he => ?_⟩
        cases i with
        | zero =>
          simp at hi hv he; subst hi; subst hv; subst he
          exact retCell_ok hm h1 (hr.2 0 c _ rfl rfl) (fun x hx => hL x (by simp [hx])) hn
        | succ i => exact k3 i r' v' e' (by simpa using hi) (by simpa using hv) (by simpa using he)
    · cases h

theorem own_retCell {r : RCell} {c : SC} {e : E} {l : OwnL} (h : retCell σ r c = some (e, l)) : (r.2.map (·.1)).toList = l.map (·.1) := by
  obtain ⟨t, _ | ⟨j, T⟩⟩ := r
  · simp only [retCell] at h
    split at h
    · split at h
      · injection h with h; simp only [Prod.mk.injEq] at h; rw [← h.2]; rfl
      · cases h
    · cases h
  · simp only [retCell] at h
    split at h
    · split at h
      · injection h with h; simp only [Prod.mk.injEq] at h; rw [← h.2]; rfl
      · cases h
    · split at h
      · split at h
        · injection h with h; simp only [Prod.mk.injEq] at h; rw [← h.2]; rfl
        · cases h
      · cases h
    · split at h
      · split at h
        · injection h with h; simp only [Prod.mk.injEq] at h; rw [← h.2]; rfl
        · cases h
      · cases h
    · cases h

theorem own_retCells : ∀ {rs : List RCell} {cs : List SC} {es : List E} {l : OwnL}, retCells σ rs cs = some (es, l) → (rs.filterMap fun x => x.2.map (·.1)) = l.map (·.1)
  | [], cs, es, l, h => by
    cases cs <;> simp [retCells] at h
    obtain ⟨rfl, rfl⟩ := h; rfl
  | _ :: _, [], _, _, h => by cases h
  | r :: rs, c :: cs, es, l, h => by
    simp only [retCells] at h
    split at h
    · rename_i q1 q2
      injection h with h; simp only [Prod.mk.injEq] at h; rw [← h.2, List.map_append, ← own_retCell q1, ← own_retCells q2]
      cases hr : r.2 with
      | none => simp [hr]
      | some x => simp [hr]
    · cases h

theorem retCell_live {r : RCell} {c : SC} {e : E} {l : OwnL} {j : Nat} {g : Tag} (h : retCell σ r c = some (e, l)) (hm : (j, some g) ∈ l) : ∃ z, σ.live g = some z := by
  obtain ⟨t, _ | ⟨j0, T⟩⟩ := r
  · simp only [retCell] at h
    split at h
    · split at h
      · injection h with h; simp only [Prod.mk.injEq] at h; rw [← h.2] at hm; simp at hm
      · cases h
    · cases h
  · simp only [retCell] at h
    split at h
    · split at h
      · injection h with h; simp only [Prod.mk.injEq] at h; rw [← h.2] at hm; simp at hm
      · cases h
    · split at h
      · rename_i hl
        split at h
        · injection h with h; simp only [Prod.mk.injEq] at h; rw [← h.2] at hm
          simp at hm; obtain ⟨rfl, rfl⟩ := hm; exact ⟨_, hl⟩
        · cases h
      · cases h
    · split at h
      · rename_i hl
        split at h
        · injection h with h; simp only [Prod.mk.injEq] at h; rw [← h.2] at hm
          simp at hm; obtain ⟨rfl, rfl⟩ := hm; exact ⟨_, hl⟩
        · cases h
      · cases h
    · cases h
theorem retCells_live : ∀ {rs : List RCell} {cs : List SC} {es : List E} {l : OwnL} {j : Nat} {g : Tag}, retCells σ rs cs = some (es, l) → (j, some g) ∈ l → ∃ z, σ.live g = some z
  | [], [], es, l, j, g, h, hm => by simp [retCells] at h; obtain ⟨rfl, rfl⟩ := h; simp at hm
  | [], _ :: _, _, _, _, _, h, _ => by cases h
  | _ :: _, [], _, _, _, _, h, _ => by cases h
  | r :: rs, c :: cs, es, l, j, g, h, hm => by
    simp only [retCells] at h
    split at h
    · rename_i q1 q2
      injection h with h; simp only [Prod.mk.injEq] at h; rw [← h.2] at hm
      rcases List.mem_append.1 hm with hm | hm
      · exact retCell_live q1 hm
      · exact retCells_live q2 hm
    · cases h
/-- Of owned slices with numbers of their own and tags of their own: one block, one number. -/
theorem own_apart {l : OwnL} (hm : SimM w0 S0 C G σ w) (hok : ownOkB l = true) (hlive : ∀ j g, (j, some g) ∈ l → ∃ z, σ.live g = some z) {j k b : Nat} (hj : j ∈ l.map (·.1)) (hk : k ∈ l.map (·.1))
    (hbj : (τOf G l j).ownBlock = some b) (hbk : (τOf G l k).ownBlock = some b) : j = k := by
  unfold ownOkB at hok
  simp only [Bool.and_eq_true, decide_eq_true_eq] at hok
  obtain ⟨hnt, hnj⟩ := hok
  obtain ⟨x, hx, rfl⟩ := List.mem_map.1 hj
  obtain ⟨y, hy, rfl⟩ := List.mem_map.1 hk
  have ex : lk l x.1 = some x.2 := lk_of_mem hnj hx
  have ey : lk l y.1 = some y.2 := lk_of_mem hnj hy
  unfold τOf at hbj hbk
  rw [ex] at hbj
  rw [ey] at hbk
  obtain ⟨jx, _ | gx⟩ := x
  · cases hbj
  · obtain ⟨jy, _ | gy⟩ := y
    · cases hbk
    · simp only at hbj hbk
      obtain ⟨zx, hzx⟩ := hlive _ _ hx
      obtain ⟨zy, hzy⟩ := hlive _ _ hy
      have hg := hm.ownne gx gy _ _ b hzx hzy hbj hbk
      subst hg
      obtain ⟨i1, hi1⟩ := List.getElem?_of_mem hx
      obtain ⟨i2, hi2⟩ := List.getElem?_of_mem hy
      have := nodupTags_ne hnt i1 i2 gx (by rw [List.getElem?_map, hi1]; rfl) (by rw [List.getElem?_map, hi2]; rfl)
      subst this
      rw [hi1] at hi2; injection hi2 with hi2
      simp only [Prod.mk.injEq] at hi2
      exact hi2.1
theorem own_tag {l : OwnL} (hok : ownOkB l = true) {j b : Nat} (hj : j ∈ l.map (·.1)) (hb : (τOf G l j).ownBlock = some b) : ∃ g, (j, some g) ∈ l ∧ (G.τ g).ownBlock = some b := by
  unfold ownOkB at hok
  simp only [Bool.and_eq_true, decide_eq_true_eq] at hok
  obtain ⟨x, hx, rfl⟩ := List.mem_map.1 hj
  have ex : lk l x.1 = some x.2 := lk_of_mem hok.2 hx
  unfold τOf at hb
  rw [ex] at hb
  obtain ⟨jx, _ | gx⟩ := x
  · cases hb
  · exact ⟨gx, hx, hb⟩
end
end Go.Eng
