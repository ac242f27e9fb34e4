/-
  A call that is handed objects: what it does to the symbolic state.
-/
import Derived.Test.YtjpkeliliahjoaaEngLa
namespace Go.Eng
open Go Go.RowKit

section
variable {P : Program} {C : Cx} {w w0 : World} {S0 : Base} {G : Gh} {σ : St} {a : Act} {n p : Nat}

theorem SimM.ocalled (h : SimM w0 S0 C G σ w) (hp : ¬ C.M p) {w' : World} {S' : Foot} {τ' : Nat → Value} {βn : Nat} {ids : List Nat} {kill : List Tag} {mu : Nat → Prop}
    (hbel : BelowX mu w w') (hmu : ∀ b, mu b → (∃ id ∈ ids, b = G.β id) ∨ ∃ g ∈ kill, (G.τ g).ownBlock = some b)
    (hids : ∀ id ∈ ids, ∃ cs, σ.hp id = some (false, cs)) (hkill : ∀ g ∈ kill, ∃ x, σ.live g = some x)
    (hS : ∀ b o, G.S b o → S' b o) (hlt : ∀ b o, S' b o → b < w'.heap.size) (hnew : ∀ b o, S' b o → G.S b o ∨ w.heap.size ≤ b ∨ mu b) (hkeep : ∀ b o, G.S b o → w'.cell? ⟨b, o, none⟩ = w.cell? ⟨b, o, none⟩)
    (hp' : Nat → Option (Bool × List SC)) (live' : Tag → Option (E × TypeId × Ty)) (G' : Gh)
    (hG : G' = { S := S', β := upd G.β p βn, τ := fun g => if g.1 = p then τ' g.2 else G.τ g })
    (hhp : ∀ id x, hp' id = some x → (id ∉ ids ∧ id ≠ p ∧ σ.hp id = some x) ∨ (x.1 = false ∧ (id ∈ ids ∨ (id = p ∧ w.heap.size ≤ βn)) ∧ x.2.all SC.scalar = true ∧
      (∃ (vs : List Value) (T : TypeId), w'.heap[G'.β id]? = some (.cells vs.toArray T (0, 0)) ∧ RSCs (C.add p) w' G' x.2 vs) ∧ ∀ o, ¬ S' (G'.β id) o))
    (hlive : ∀ g x, live' g = some x → (g.1 ≠ p ∧ g ∉ kill ∧ σ.live g = some x) ∨ (g.1 = p ∧ OwnOk (C.add p) w' 0 G' g x.1 x.2.1 x.2.2 ∧ ∀ b, (τ' g.2).ownBlock = some b → w.heap.size ≤ b ∨ mu b))
    (hdis : ∀ j k x y b, live' (p, j) = some x → live' (p, k) = some y → (τ' j).ownBlock = some b → (τ' k).ownBlock = some b → j = k)
    (hob : ∀ j id x y b, live' (p, j) = some x → hp' id = some y → (id ∈ ids ∨ id = p) → (τ' j).ownBlock = some b → b ≠ G'.β id) (hnf : ¬ S0.fr) (hnw : ¬ S0.wz) :
    Later C w G (C.add p) w' G' ∧ SimM w0 S0 (C.add p) G' { σ with hp := hp', live := live' } w' := by
  subst hG
  have hidM : ∀ id ∈ ids, C.M id := fun id hi => by obtain ⟨cs, hcs⟩ := hids id hi; exact h.boxM _ _ hcs
  have hβ : ∀ id, C.M id → upd G.β p βn id = G.β id := fun id hi => upd_ne _ _ (fun e => hp (e ▸ hi))
  have hτ : ∀ g : Tag, C.M g.1 → (if g.1 = p then τ' g.2 else G.τ g) = G.τ g := fun g hg => if_neg (fun e => hp (by rw [← e]; exact hg))
  have hmuN : ∀ b, mu b → NewB w0 S0 b ∧ b < w.heap.size := by
    intro b hb
    rcases hmu b hb with ⟨id, hid, rfl⟩ | ⟨g, hg, hgb⟩
    · obtain ⟨cs, hcs⟩ := hids id hid
      exact ⟨h.newB (h.box _ _ _ hcs).1, h.box_lt hcs⟩
    · obtain ⟨x, hx⟩ := hkill g hg
      exact ⟨h.ownnew g x b hx hgb, ((h.own g x.1 x.2.1 x.2.2 hx).lt_heap b hgb).2⟩
  have hlat : Later C w G (C.add p) w' { S := S', β := upd G.β p βn, τ := fun g => if g.1 = p then τ' g.2 else G.τ g } :=
    ⟨fun _ h => ⟨rfl, h⟩, fun _ h => .inl h, hS, hkeep, fun i hi => hβ i hi, fun g hg => hτ g hg⟩
  have oldbox : ∀ id x, id ∉ ids → σ.hp id = some x → ¬ mu (G.β id) := by
    intro id x hn hx hb
    rcases hmu _ hb with ⟨id2, h2, he⟩ | ⟨g, hg, hgb⟩
    · obtain ⟨cs, hcs⟩ := hids id2 h2
      exact hn (h.inj id id2 _ _ hx hcs he ▸ h2)
    · obtain ⟨y, hy⟩ := hkill g hg
      exact h.ownbox g id y x _ hy hx hgb rfl
  have oldown : ∀ g x b, g ∉ kill → σ.live g = some x → (G.τ g).ownBlock = some b → ¬ mu b := by
    intro g x b hn hx hgb hb
    rcases hmu _ hb with ⟨id2, h2, he⟩ | ⟨g2, hg2, hgb2⟩
    · obtain ⟨cs, hcs⟩ := hids id2 h2
      exact h.ownbox g id2 x _ b hx hcs hgb he
    · obtain ⟨y, hy⟩ := hkill g2 hg2
      exact hn (h.ownne g g2 x y b hx hy hgb hgb2 ▸ hg2)
  have hsz := h.below.size
  have key : ∀ i x, hp' i = some x → (C.M i ∧ (∃ x', σ.hp i = some x') ∧ upd G.β p βn i = G.β i) ∨ (i = p ∧ w.heap.size ≤ βn) := by
    intro i x hi
    rcases hhp i x hi with ⟨_, _, h2⟩ | ⟨_, h2 | h2, _⟩
    · exact .inl ⟨h.boxM _ _ h2, ⟨_, h2⟩, hβ _ (h.boxM _ _ h2)⟩
    · obtain ⟨cs, hcs⟩ := hids i h2
      exact .inl ⟨hidM i h2, ⟨_, hcs⟩, hβ _ (hidM i h2)⟩
    · exact .inr h2
  refine ⟨hlat, ⟨?_, fun b o hs => hS b o (h.foot0 b o hs), h.keep_later hlat, h.pin_later hlat, h.pinmu, hlt, ?_, ?_, ?_, ?_, ?_, ?_, ?_, ?_, fun h => absurd h hnf, fun h => absurd h hnw⟩⟩
  · refine ⟨hbel.os.trans h.below.os, hbel.tape.trans h.below.tape, hbel.output.trans h.below.output, Nat.le_trans hsz hbel.size, fun k hk hm => (hbel.block k (by omega) (fun hb => ?_)).trans (h.below.block k hk hm)⟩
    rcases (hmuN k hb).1 with h3 | h3
    · omega
    · exact hm h3
  · intro b o hs
    rcases hnew b o hs with h1 | h1 | h1
    · exact h.footnew b o h1
    · exact .inr (.inl (by omega))
    · exact .inr (hmuN b h1).1
  · intro id x hx
    rcases key id x hx with ⟨h1, _⟩ | ⟨rfl, _⟩
    · exact .inl h1
    · exact .inr rfl
  · intro id ro cs hx
    rcases hhp id _ hx with ⟨n1, n2, hx'⟩ | ⟨hf, hid, hsc, hcell, hns⟩
    · obtain ⟨b1, b2, ⟨vs, T, b3, b4⟩, b5⟩ := h.box id ro cs hx'
      have hb := hβ id (h.boxM _ _ hx')
      have hnm := oldbox id _ n1 hx'
      have hlt' := h.box_lt hx'
      refine ⟨by show BoxB w0 S0 (upd G.β p βn id); rw [hb]; exact b1, b2, ⟨vs, T, by show w'.heap[upd G.β p βn id]? = _; rw [hb]; exact (hbel.block _ hlt' hnm).trans b3, b4.later hlat⟩, ?_⟩
      show if ro = true then ∀ o, o < cs.length → S' (upd G.β p βn id) o else ∀ o, ¬ S' (upd G.β p βn id) o
      rw [hb]
      cases ro with
      | true => simp only [if_true] at b5 ⊢; exact fun o ho => hS _ _ (b5 o ho)
      | false =>
        simp only [Bool.false_eq_true, if_false] at b5 ⊢
        intro o ho
        rcases hnew _ _ ho with h6 | h6 | h6
        · exact b5 o h6
        · omega
        · exact hnm h6
    · simp only at hf
      subst hf
      refine ⟨?_, hsc, hcell, by simp only [Bool.false_eq_true, if_false]; exact hns⟩
      show BoxB w0 S0 (upd G.β p βn id)
      rcases hid with hid | ⟨rfl, hβn⟩
      · rw [hβ id (hidM id hid)]
        obtain ⟨cs', hcs'⟩ := hids id hid
        exact (h.box _ _ _ hcs').1
      · rw [upd_same]; exact .inl (by omega)
  · intro i j x y hi hj he
    have he' : upd G.β p βn i = upd G.β p βn j := he
    rcases key i x hi with ⟨_, ⟨x', hx'⟩, e1⟩ | ⟨rfl, e1⟩ <;> rcases key j y hj with ⟨_, ⟨y', hy'⟩, e2⟩ | ⟨rfl, e2⟩
    · rw [e1, e2] at he'
      exact h.inj i j _ _ hx' hy' he'
    · rw [e1, upd_same] at he'
      have := h.box_lt hx'
      omega
    · rw [e2, upd_same] at he'
      have := h.box_lt hy'
      omega
    · rfl
  · intro g e T t hx
    rcases hlive g _ hx with ⟨h1, h2, h3⟩ | ⟨h1, h2, _⟩
    · have ho := h.own g e T t h3
      refine ho.later hlat (fun b hb => hbel.block b (ho.lt_heap b hb).2 (oldown g _ b h2 h3 hb)) (fun b hb o hs => ?_)
      rcases hnew b o hs with h6 | h6 | h6
      · exact h6
      · have := (ho.lt_heap b hb).2; omega
      · exact absurd h6 (oldown g _ b h2 h3 hb)
    · exact h2
  · intro g x b hx hgb
    rcases hlive g _ hx with ⟨h1, h2, h3⟩ | ⟨h1, _, h2⟩
    · simp only [if_neg h1] at hgb
      exact h.ownnew g x b h3 hgb
    · simp only [if_pos h1] at hgb
      rcases h2 b hgb with h4 | h4
      · exact .inl (by omega)
      · exact (hmuN b h4).1
  · intro g g' x y b hx hy hgb hgb'
    rcases hlive g _ hx with ⟨h1, h2, h3⟩ | ⟨h1, _, h2⟩ <;> rcases hlive g' _ hy with ⟨h4, h5, h6⟩ | ⟨h4, _, h5⟩
    · simp only [if_neg h1] at hgb; simp only [if_neg h4] at hgb'
      exact h.ownne g g' x y b h3 h6 hgb hgb'
    · simp only [if_neg h1] at hgb; simp only [if_pos h4] at hgb'
      rcases h5 b hgb' with h7 | h7
      · have := ((h.own g x.1 x.2.1 x.2.2 h3).lt_heap b hgb).2; omega
      · exact absurd h7 (oldown g x b h2 h3 hgb)
    · simp only [if_pos h1] at hgb; simp only [if_neg h4] at hgb'
      rcases h2 b hgb with h7 | h7
      · have := ((h.own g' y.1 y.2.1 y.2.2 h6).lt_heap b hgb').2; omega
      · exact absurd h7 (oldown g' y b h5 h6 hgb')
    · obtain ⟨g1, j⟩ := g
      obtain ⟨g2, k⟩ := g'
      simp only at h1 h4
      subst h1; subst h4
      simp only [if_true] at hgb hgb'
      rw [hdis j k x y b hx hy hgb hgb']
  · intro g id x y b hx hy hgb
    show b ≠ upd G.β p βn id
    rcases hlive g _ hx with ⟨h1, h2, h3⟩ | ⟨h1, _, h2⟩
    · simp only [if_neg h1] at hgb
      rcases key id y hy with ⟨_, ⟨y', hy'⟩, e2⟩ | ⟨rfl, e2⟩
      · rw [e2]; exact h.ownbox g id x y' b h3 hy' hgb
      · rw [upd_same]
        have := ((h.own g x.1 x.2.1 x.2.2 h3).lt_heap b hgb).2; omega
    · obtain ⟨g1, j⟩ := g
      simp only at h1
      subst h1
      simp only [if_true] at hgb
      rcases hhp id y hy with ⟨n1, n2, hx'⟩ | ⟨_, hid, _⟩
      · rw [hβ id (h.boxM _ _ hx')]
        intro he
        have := h.box_lt hx'
        rcases h2 b hgb with h7 | h7
        · omega
        · rw [he] at h7; exact oldbox id _ n1 hx' h7
      · exact hob j id x y b hx hy (hid.imp (fun h => h) And.left) hgb

end
end Go.Eng
