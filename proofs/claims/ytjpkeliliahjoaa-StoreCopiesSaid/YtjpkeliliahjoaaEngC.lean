/-
  What a new block, a store, a block that is written no more, and a call do to the symbolic state.
-/
import Derived.Test.YtjpkeliliahjoaaEngB
namespace Go.Eng
open Go Go.RowKit

def Cx.add (C : Cx) (p : Nat) : Cx := { C with M := fun i => C.M i ∨ i = p }

section
variable {C : Cx} {w w0 : World} {G : Gh} {S0 : Base} {σ : St} {p : Nat}

theorem Later.addM (C : Cx) (w : World) (G : Gh) (p : Nat) : Later C w G (C.add p) w G :=
  ⟨fun _ h => ⟨rfl, h⟩, fun _ h => .inl h, fun _ _ h => h, fun _ _ _ => rfl, fun _ _ => rfl, fun _ _ => rfl⟩

theorem OwnOk.rep {base : Nat} {g : Tag} {e : E} {T : TypeId} {t : Ty} (h : OwnOk C w base G g e T t) (hsz : 0 < t.cells.length) (hex : g.ex = false := by rfl) : Rep w G.S (G.τ g) (den C.ρ e) := by
  obtain ⟨xs, l, hd, hown, hS, hr⟩ := h.own
  rw [hd]
  obtain ⟨hl, hh⟩ := hown
  rcases hh with ⟨hv, hn⟩ | ⟨b, cap, cur, hv, hb, hg, hnc, hcm, hcs, htake⟩
  · have : l = [] := List.eq_nil_of_length_eq_zero hn
    subst this
    rw [hv]; exact .nil none 0
  · have hhas := h.has
    rw [hd] at hhas
    obtain ⟨l', hl', _, hx⟩ := has_list.1 hhas
    injection hl' with hl'; subst hl'
    by_cases hne : l = []
    · subst hne; rw [hv]; exact .nil _ cap
    · rw [hv]
      refine .list b 0 cap t.cells.length xs l hsz hne hnc hl (fun i hi => ?_) (fun i v hi => ?_) (fun i d hd' => ?_) hr
      · rw [Nat.zero_add]; exact (hS b (by rw [hv]; rfl) i).2 ⟨hex, hi⟩
      · rw [Nat.zero_add, cell_of_row w b i cur T (0, 0) hg]
        rw [← htake, List.getElem?_take] at hi
        split at hi
        · simpa using hi
        · cases hi
      · exact (has_cells (hx d (List.mem_of_getElem? hd'))).1

/-- An owned slice stays what it is where its block, and what its cells lean on, stay. -/
theorem OwnOk.later {C' : Cx} {w' : World} {G' : Gh} {base : Nat} {g : Tag} {e : E} {T : TypeId} {t : Ty} (hlat : Later C w G C' w' G') (h : OwnOk C w base G g e T t)
    (hblk : ∀ b, (G.τ g).ownBlock = some b → w'.heap[b]? = w.heap[b]?) (hS : ∀ b, (G.τ g).ownBlock = some b → ∀ o, G'.S b o → G.S b o) : OwnOk C' w' base G' g e T t := by
  obtain ⟨hd, hlt⟩ := hlat.den e h.lt
  have hτ := hlat.τ g h.m
  refine ⟨hlat.M _ h.m, hlt, hd ▸ h.has, ?_⟩
  obtain ⟨xs, l, hl, hown, hfoot, hr⟩ := h.own
  refine ⟨xs, l, hd.trans hl, ?_, ?_, fun i d j v c h1 h2 h3 => (hr i d j v c h1 h2 h3).keep hlat.S hlat.cell⟩
  · rw [hτ]
    refine ⟨hown.1, ?_⟩
    rcases hown.2 with hn | ⟨b, cap, cur, hv, hb, hg, rest⟩
    · exact .inl hn
    · exact .inr ⟨b, cap, cur, hv, hb, by rw [hblk b (by rw [hv]; rfl)]; exact hg, rest⟩
  · intro b hb o
    rw [hτ] at hb
    rw [← hfoot b hb o]
    exact ⟨hS b hb o, hlat.S b o⟩

theorem OwnOk.lt_heap {base : Nat} {g : Tag} {e : E} {T : TypeId} {t : Ty} (h : OwnOk C w base G g e T t) : ∀ b, (G.τ g).ownBlock = some b → base ≤ b ∧ b < w.heap.size := by
  obtain ⟨xs, l, _, hown, _⟩ := h.own
  exact hown.lt

theorem SimM.addM (h : SimM w0 S0 C G σ w) (p : Nat) : SimM w0 S0 (C.add p) G σ w where
  below := h.below
  foot0 := h.foot0
  keep := h.keep
  pin i b hi := ⟨.inl (h.pin i b hi).1, (h.pin i b hi).2⟩
  pinmu := h.pinmu
  footlt := h.footlt
  footnew := h.footnew
  boxM id x hx := .inl (h.boxM id x hx)
  box id ro cs hx := by
    obtain ⟨h1, h2, ⟨vs, T, h3, h4⟩, h5⟩ := h.box id ro cs hx
    exact ⟨h1, h2, ⟨vs, T, h3, h4.later (Later.addM C w G p)⟩, h5⟩
  inj := h.inj
  own g e T t hx := (h.own g e T t hx).later (Later.addM C w G p) (fun _ _ => rfl) (fun _ _ _ h => h)
  ownnew := h.ownnew
  ownne := h.ownne
  ownbox := h.ownbox
  fresh := h.fresh
  wz := h.wz
theorem SimM.keep_later {C' : Cx} {w' : World} {G' : Gh} (h : SimM w0 S0 C G σ w) (hlat : Later C w G C' w' G') : ∀ b o, S0.foot b o → w'.cell? ⟨b, o, none⟩ = w0.cell? ⟨b, o, none⟩ :=
  fun b o hs => (hlat.cell b o (h.foot0 b o hs)).trans (h.keep b o hs)
theorem SimM.pin_later {C' : Cx} {w' : World} {G' : Gh} (h : SimM w0 S0 C G σ w) (hlat : Later C w G C' w' G') : ∀ i b, S0.pin i = some b → C'.M i ∧ G'.β i = b :=
  fun i b hi => ⟨hlat.M i (h.pin i b hi).1, (hlat.β i (h.pin i b hi).1).trans (h.pin i b hi).2⟩

theorem SimM.fresh_later {C' : Cx} {w' : World} {G' : Gh} (h : SimM w0 S0 C G σ w) (hlat : Later C w G C' w' G') (hτ : G'.τ = G.τ) (hh : ∀ b o, G.S b o → w'.heap[b]? = w.heap[b]?) (hnew : ∀ b o, G'.S b o → (∃ o', G.S b o') → G.S b o) :
    S0.fr → ∀ g, FrV (NewB w0 S0) w' G'.S (G'.τ g) := by
  intro hf g
  rw [hτ]
  exact (h.fresh hf g).mono hh hlat.S hnew

theorem SimM.base_le (h : SimM w0 S0 C G σ w) : w0.heap.size ≤ w.heap.size := h.below.size

theorem SimM.box_lt (h : SimM w0 S0 C G σ w) {id : Nat} {x : Bool × List SC} (hx : σ.hp id = some x) : G.β id < w.heap.size := by
  obtain ⟨_, _, ⟨vs, T, h3, _⟩, _⟩ := h.box id x.1 x.2 hx
  exact (Array.getElem?_eq_some_iff.1 h3).1

/-- A new block of the call's own. -/
theorem SimM.alloc (h : SimM w0 S0 C G σ w) (hp : ¬ C.M p) {cs : List SC} {vs : List Value} (hr : RSCs C w G cs vs) (hsc : cs.all SC.scalar = true) (T : TypeId) :
    Later C w G (C.add p) (w.alloc (.cells vs.toArray T)) { G with β := upd G.β p w.heap.size } ∧
    SimM w0 S0 (C.add p) { G with β := upd G.β p w.heap.size } { σ with hp := upd σ.hp p (some (false, cs)) } (w.alloc (.cells vs.toArray T)) := by
  have hlat : Later C w G (C.add p) (w.alloc (.cells vs.toArray T)) { G with β := upd G.β p w.heap.size } :=
    ⟨fun _ h => ⟨rfl, h⟩, fun _ h => .inl h, fun _ _ h => h, fun b o hs => World.cell?_alloc_lt w _ _ (h.footlt b o hs),
      fun i hi => upd_ne _ _ (fun e => hp (e ▸ hi)), fun _ _ => rfl⟩
  refine ⟨hlat, ?_⟩
  have hb := h.base_le
  refine ⟨h.below.alloc _, h.foot0, h.keep_later hlat, h.pin_later hlat, h.pinmu, fun b o hs => by simpa using Nat.lt_succ_of_lt (h.footlt b o hs), h.footnew, ?_, ?_, ?_, ?_, h.ownnew, ?_, ?_, h.fresh_later hlat rfl (fun b o hs => Below.heap_alloc w _ _ (h.footlt b o hs)) (fun _ _ h _ => h), fun hz b o hs => by
    obtain ⟨cur, T, hcur⟩ := h.wz hz b o hs
    exact ⟨cur, T, (Below.heap_alloc w _ _ (h.footlt b o hs)).trans hcur⟩⟩
  · intro id x hx
    by_cases hid : id = p
    · exact .inr hid
    · simp only [upd_ne _ _ hid] at hx; exact .inl (h.boxM id x hx)
  · intro id ro cs' hx
    by_cases hid : id = p
    · subst hid
      simp only [upd_same, Option.some.injEq, Prod.mk.injEq] at hx
      obtain ⟨rfl, rfl⟩ := hx
      refine ⟨by simp only [upd_same]; exact .inl hb, hsc, ⟨vs, T, ?_, hr.later hlat⟩, ?_⟩
      · simp only [upd_same]; exact heap_alloc_new w _
      · simp only [upd_same, Bool.false_eq_true, if_false]
        intro o ho
        exact absurd (h.footlt _ _ ho) (by omega)
    · simp only [upd_ne _ _ hid] at hx
      obtain ⟨h1, h2, ⟨vs', T', h3, h4⟩, h5⟩ := h.box id ro cs' hx
      simp only [upd_ne _ _ hid]
      refine ⟨h1, h2, ⟨vs', T', ?_, h4.later hlat⟩, h5⟩
      rw [Below.heap_alloc w _ _ (h.box_lt hx)]; exact h3
  · intro i j x y hi hj he
    by_cases hip : i = p
    · by_cases hjp : j = p
      · rw [hip, hjp]
      · subst hip
        simp only [upd_same, upd_ne _ _ hjp] at he hj
        have := h.box_lt hj
        omega
    · by_cases hjp : j = p
      · subst hjp
        simp only [upd_same, upd_ne _ _ hip] at he hi
        have := h.box_lt hi
        omega
      · simp only [upd_ne _ _ hip, upd_ne _ _ hjp] at he hi hj
        exact h.inj i j x y hi hj he
  · intro g e T' t hx
    have ho := h.own g e T' t hx
    exact ho.later hlat (fun b hb' => Below.heap_alloc w _ _ (ho.lt_heap b hb').2) (fun _ _ _ h => h)
  · exact h.ownne
  · intro g id x y b hx hy hb'
    by_cases hid : id = p
    · subst hid
      simp only [upd_same]
      have := ((h.own g x.1 x.2.1 x.2.2 hx).lt_heap b hb').2
      omega
    · simp only [upd_ne _ _ hid] at hy ⊢
      exact h.ownbox g id x y b hx hy hb'

/-- A store into a block of the call's own. -/
theorem SimM.setBox (h : SimM w0 S0 C G σ w) {id : Nat} {cs0 cs : List SC} (hid : σ.hp id = some (false, cs0)) {vs : List Value} (hr : RSCs C w G cs vs) (hsc : cs.all SC.scalar = true) :
    Later C w G C (w.setRow (G.β id) vs.toArray) G ∧ SimM w0 S0 C G { σ with hp := upd σ.hp id (some (false, cs)) } (w.setRow (G.β id) vs.toArray) := by
  obtain ⟨hb, _, ⟨vs0, T, hg, _⟩, hns⟩ := h.box id false cs0 hid
  simp only [Bool.false_eq_true, if_false] at hns
  have hother : ∀ k, k ≠ G.β id → (w.setRow (G.β id) vs.toArray).heap[k]? = w.heap[k]? := fun k hk => setRow_other w _ k _ hk
  have hlat : Later C w G C (w.setRow (G.β id) vs.toArray) G :=
    ⟨fun _ h => ⟨rfl, h⟩, fun _ h => h, fun _ _ h => h, fun b o hs => World.cell?_of_block (hother b (fun e => hns o (e ▸ hs))), fun _ _ => rfl, fun _ _ => rfl⟩
  refine ⟨hlat, ?_⟩
  refine ⟨?_, h.foot0, h.keep_later hlat, h.pin_later hlat, h.pinmu, fun b o hs => by simpa using h.footlt b o hs, h.footnew, ?_, ?_, ?_, ?_, h.ownnew, h.ownne, ?_, h.fresh_later hlat rfl (fun b o hs => hother b (fun e => hns o (e ▸ hs))) (fun _ _ h _ => h), fun hz b o hs => by
    obtain ⟨cur, T, hcur⟩ := h.wz hz b o hs
    exact ⟨cur, T, (hother b (fun e => hns o (e ▸ hs))).trans hcur⟩⟩
  · refine ⟨h.below.os, h.below.tape, h.below.output, by simpa using h.below.size, fun k hk hm => (hother k ?_).trans (h.below.block k hk hm)⟩
    rintro rfl
    rcases h.newB hb with hb | hb
    · omega
    · exact hm hb
  · intro i x hx
    by_cases hi : i = id
    · subst hi; exact h.boxM _ _ hid
    · simp only [upd_ne _ _ hi] at hx; exact h.boxM i x hx
  · intro i ro cs' hx
    by_cases hi : i = id
    · subst hi
      simp only [upd_same, Option.some.injEq, Prod.mk.injEq] at hx
      obtain ⟨rfl, rfl⟩ := hx
      refine ⟨hb, hsc, ⟨vs, T, setRow_heap w _ _ _ T _ hg, hr.later hlat⟩, ?_⟩
      simp only [Bool.false_eq_true, if_false]; exact hns
    · simp only [upd_ne _ _ hi] at hx
      obtain ⟨h1, h2, ⟨vs', T', h3, h4⟩, h5⟩ := h.box i ro cs' hx
      refine ⟨h1, h2, ⟨vs', T', ?_, h4.later hlat⟩, h5⟩
      rw [hother _ (fun e => hi (h.inj _ _ _ _ hx hid e))]; exact h3
  · intro i j x y hi hj he
    have pres : ∀ i x, (upd σ.hp id (some (false, cs))) i = some x → ∃ x', σ.hp i = some x' := by
      intro i x hx
      by_cases hii : i = id
      · exact ⟨_, hii ▸ hid⟩
      · exact ⟨x, by rw [upd_ne _ _ hii] at hx; exact hx⟩
    obtain ⟨x', hx'⟩ := pres i x hi
    obtain ⟨y', hy'⟩ := pres j y hj
    exact h.inj i j x' y' hx' hy' he
  · intro g e T' t hx
    have ho := h.own g e T' t hx
    exact ho.later hlat (fun b hb' => hother b (h.ownbox g id _ _ b hx hid hb')) (fun _ _ _ h => h)
  · intro g i x y b hx hy hb'
    by_cases hii : i = id
    · subst hii; exact h.ownbox g i x _ b hx hid hb'
    · simp only [upd_ne _ _ hii] at hy; exact h.ownbox g i x y b hx hy hb'

/-- From now on the block is only read: readings may lean on it. -/
theorem SimM.freeze (h : SimM w0 S0 C G σ w) {id : Nat} {ro : Bool} {cs : List SC} (hid : σ.hp id = some (ro, cs)) :
    ∃ G', Later C w G C w G' ∧ SimM w0 S0 C G' { σ with hp := upd σ.hp id (some (true, cs)) } w ∧ (∀ o, o < cs.length → G'.S (G.β id) o) ∧ G'.β = G.β ∧ G'.τ = G.τ := by
  obtain ⟨hb, hsc, ⟨vs0, T, hg, hr0⟩, hns⟩ := h.box id ro cs hid
  have hlt := h.box_lt hid
  refine ⟨{ G with S := fun b o => G.S b o ∨ (b = G.β id ∧ o < cs.length) }, ?_, ?_, fun o ho => .inr ⟨rfl, ho⟩, rfl, rfl⟩
  all_goals have hlat : Later C w G C w { G with S := fun b o => G.S b o ∨ (b = G.β id ∧ o < cs.length) } :=
    ⟨fun _ h => ⟨rfl, h⟩, fun _ h => h, fun _ _ h => .inl h, fun _ _ _ => rfl, fun _ _ => rfl, fun _ _ => rfl⟩
  · exact hlat
  refine ⟨h.below, fun b o hs => .inl (h.foot0 b o hs), h.keep, h.pin, h.pinmu, ?_, ?_, ?_, ?_, ?_, ?_, h.ownnew, h.ownne, ?_, h.fresh_later hlat rfl (fun _ _ _ => rfl) ?_, fun hz b o hs => by
    rcases hs with hs | ⟨rfl, _⟩
    · exact h.wz hz b o hs
    · exact ⟨_, _, hg⟩⟩
  rotate_right
  · rintro b o (hs | ⟨rfl, ho⟩) ⟨o', ho'⟩
    · exact hs
    · cases ro with
      | true => simp only [if_true] at hns; exact hns o ho
      | false => simp only [Bool.false_eq_true, if_false] at hns; exact absurd ho' (hns o')
  · rintro b o (hs | ⟨rfl, _⟩)
    · exact h.footlt b o hs
    · exact hlt
  · rintro b o (hs | ⟨rfl, _⟩)
    · exact h.footnew b o hs
    · exact .inr (h.newB hb)
  · intro i x hx
    by_cases hi : i = id
    · subst hi; exact h.boxM _ _ hid
    · simp only [upd_ne _ _ hi] at hx; exact h.boxM i x hx
  · intro i ro' cs' hx
    by_cases hi : i = id
    · subst hi
      simp only [upd_same, Option.some.injEq, Prod.mk.injEq] at hx
      obtain ⟨rfl, rfl⟩ := hx
      exact ⟨hb, hsc, ⟨vs0, T, hg, hr0.later hlat⟩, by simp only [if_true]; exact fun o ho => .inr ⟨trivial, ho⟩⟩
    · simp only [upd_ne _ _ hi] at hx
      obtain ⟨h1, h2, ⟨vs', T', h3, h4⟩, h5⟩ := h.box i ro' cs' hx
      refine ⟨h1, h2, ⟨vs', T', h3, h4.later hlat⟩, ?_⟩
      cases ro' with
      | true => simp only [if_true] at h5 ⊢; exact fun o ho => .inl (h5 o ho)
      | false =>
        simp only [Bool.false_eq_true, if_false] at h5 ⊢
        rintro o (ho | ⟨he, _⟩)
        · exact h5 o ho
        · exact hi (h.inj _ _ _ _ hx hid he)
  · intro i j x y hi hj he
    have pres : ∀ i x, (upd σ.hp id (some (true, cs))) i = some x → ∃ x', σ.hp i = some x' := by
      intro i x hx
      by_cases hii : i = id
      · exact ⟨_, hii ▸ hid⟩
      · exact ⟨x, by rw [upd_ne _ _ hii] at hx; exact hx⟩
    obtain ⟨x', hx'⟩ := pres i x hi
    obtain ⟨y', hy'⟩ := pres j y hj
    exact h.inj i j x' y' hx' hy' he
  · intro g e T' t hx
    have ho := h.own g e T' t hx
    refine ho.later hlat (fun _ _ => rfl) (fun b hb' o hs => ?_)
    rcases hs with hs | ⟨rfl, _⟩
    · exact hs
    · exact absurd rfl (h.ownbox g id _ _ _ hx hid hb')
  · intro g i x y b hx hy hb'
    by_cases hii : i = id
    · subst hii; exact h.ownbox g i x _ b hx hid hb'
    · simp only [upd_ne _ _ hii] at hy; exact h.ownbox g i x y b hx hy hb'

/-- What an owned slice of its own kind holds turns: nothing else does. -/
theorem SimM.setX (h : SimM w0 S0 C G σ w) {g : Tag} {e e' : E} {T : TypeId} {t : Ty} (hg : σ.live g = some (e, T, t)) (hex : g.ex = true) {live' : Tag → Option (E × TypeId × Ty)}
    (hlive : ∀ g' x, live' g' = some x → (g' ≠ g ∧ σ.live g' = some x) ∨ (g' = g ∧ x = (e', T, t))) {b n cap : Nat} {cur row : Array Value} {l' : List D}
    (hτ : G.τ g = .slice (some ⟨b, 0, none⟩) n cap) (hcur : w.heap[b]? = some (.cells cur T (0, 0))) (hsz : row.size = cur.size)
    (he' : e'.lt C.N = true) (hden' : den C.ρ e' = .list l') (hlen : l'.length = n) (hhas : Has (.list t) (den C.ρ e'))
    (hr' : ∀ (i : Nat) d (j : Nat) v c, l'[i]? = some d → d.cells[j]? = some c → row[i * t.cells.length + j]? = some v → Rep w G.S v c) :
    Later C w G C (w.setRow b row) G ∧ SimM w0 S0 C G { σ with live := live' } (w.setRow b row) := by
  have hok := h.own g e T t hg
  obtain ⟨xs, l0, hd0, hown, hS, hr⟩ := hok.own
  have hob : (G.τ g).ownBlock = some b := by rw [hτ]; rfl
  have hnS : ∀ o, ¬ G.S b o := fun o hs => by
    have := (hS b hob o).1 hs
    rw [hex] at this; exact Bool.noConfusion this.1
  have hother : ∀ k, k ≠ b → (w.setRow b row).heap[k]? = w.heap[k]? := fun k hk => setRow_other w _ k _ hk
  have hlat : Later C w G C (w.setRow b row) G :=
    ⟨fun _ h => ⟨rfl, h⟩, fun _ h => h, fun _ _ h => h, fun b' o hs => World.cell?_of_block (hother b' (fun e => hnS o (e ▸ hs))), fun _ _ => rfl, fun _ _ => rfl⟩
  have hb : NewB w0 S0 b := h.ownnew g _ b hg hob
  have pres : ∀ g' x, live' g' = some x → ∃ y, σ.live g' = some y := by
    intro g' x hx
    rcases hlive g' x hx with ⟨_, h2⟩ | ⟨rfl, _⟩
    · exact ⟨_, h2⟩
    · exact ⟨_, hg⟩
  refine ⟨hlat, ?_⟩
  refine ⟨?_, h.foot0, h.keep_later hlat, h.pin_later hlat, h.pinmu, fun b o hs => by simpa using h.footlt b o hs, h.footnew, h.boxM, ?_, h.inj, ?_, ?_, ?_, ?_, h.fresh_later hlat rfl (fun b' o hs => hother b' (fun e => hnS o (e ▸ hs))) (fun _ _ h _ => h), fun hz b' o hs => by
    obtain ⟨cur', T', hcur'⟩ := h.wz hz b' o hs
    exact ⟨cur', T', (hother b' (fun e => hnS o (e ▸ hs))).trans hcur'⟩⟩
  · refine ⟨h.below.os, h.below.tape, h.below.output, by simpa using h.below.size, fun k hk hm => (hother k ?_).trans (h.below.block k hk hm)⟩
    rintro rfl
    rcases hb with hb | hb
    · omega
    · exact hm hb
  · intro i ro cs' hx
    obtain ⟨h1, h2, ⟨vs', T', h3, h4⟩, h5⟩ := h.box i ro cs' hx
    exact ⟨h1, h2, ⟨vs', T', by rw [hother _ (Ne.symm (h.ownbox g i _ _ b hg hx hob))]; exact h3, h4.later hlat⟩, h5⟩
  · intro g' e1 T1 t1 hx
    rcases hlive g' _ hx with ⟨hne, hl⟩ | ⟨rfl, hl⟩
    · have ho := h.own g' e1 T1 t1 hl
      exact ho.later hlat (fun b' hb' => hother b' (fun e => hne (h.ownne g' g _ _ b' hl hg hb' (e ▸ hob)))) (fun _ _ _ h => h)
    · simp only [Prod.mk.injEq] at hl
      obtain ⟨rfl, rfl, rfl⟩ := hl
      obtain ⟨hxl, hh⟩ := hown
      rcases hh with ⟨hv, _⟩ | ⟨b', cap', cur', hv, hb', hgc, hnc, hcm, hcs, htake⟩
      · rw [hτ] at hv; cases hv
      · rw [hτ] at hv
        injection hv with hv1 hv2 hv3
        injection hv1 with hv1
        injection hv1 with hv1
        subst hv1; subst hv3
        rw [hcur] at hgc
        injection hgc with hgc
        injection hgc with hgc
        subst hgc
        have hnn : n ≤ cap := by omega
        have hle : n * t1.cells.length ≤ row.toList.length := by
          simp only [Array.length_toList]; rw [hsz, hcs]; exact Nat.mul_le_mul_right _ hnn
        have htl : (row.toList.take (n * t1.cells.length)).length = n * t1.cells.length := by rw [List.length_take]; omega
        refine ⟨hok.m, he', hhas, row.toList.take (n * t1.cells.length), l', hden', ⟨by rw [htl, hlen], .inr ⟨b, cap, row, by rw [hτ, hlen], hb', ?_, by omega, hcm, by rw [hsz]; exact hcs, by rw [hlen]⟩⟩, ?_, ?_⟩
        · exact setRow_heap w _ _ _ _ _ hcur
        · intro b1 hb1 o
          have : b1 = b := by rw [hob] at hb1; injection hb1 with hb1; exact hb1.symm
          subst this
          rw [hex]
          exact ⟨fun hs => (hnS o hs).elim, fun hs => Bool.noConfusion hs.1⟩
        · intro i d j v c h1 h2 h3
          refine (hr' i d j v c h1 h2 ?_).keep hlat.S hlat.cell
          rw [List.getElem?_take] at h3
          split at h3
          · simpa using h3
          · cases h3
  · intro g' x b' hx hb'
    obtain ⟨y, hy⟩ := pres g' x hx
    exact h.ownnew g' y b' hy hb'
  · intro g1 g2 x y b' hx hy hb1 hb2
    obtain ⟨x', hx'⟩ := pres g1 x hx
    obtain ⟨y', hy'⟩ := pres g2 y hy
    exact h.ownne g1 g2 x' y' b' hx' hy' hb1 hb2
  · intro g' id x y b' hx hy hb'
    obtain ⟨x', hx'⟩ := pres g' x hx
    exact h.ownbox g' id x' y b' hx' hy hb'

end
end Go.Eng
