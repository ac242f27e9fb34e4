/-
  The symbolic state, and when a frame and a world are as it says.
-/
import Derived.Test.YtjpkeliliahjoaaEngA
namespace Go.Eng
open Go Go.RowKit

abbrev Tag := Nat × Nat
/-- Tags of slices that no reading leans on: they are written element by element. -/
def exN (j : Nat) : Bool := decide (1000 ≤ j)
def Tag.ex (g : Tag) : Bool := exN g.2

/-- What a cell, or a temporary, holds. -/
inductive SC where
  | dat (e : E) (t : Ty)
  | nils (t : Ty)
  | own (g : Tag) (e : E) (t : Ty)
  | clip (e : E) (t : Ty)
  | adr (id off : Nat)
  | eadr (l i : E) (t : Ty) (off : Nat)
  | padr (e : E) (fs : Ty) (off : Nat)
  | xo (g : Tag) (t : Ty)
  | xadr (g : Tag) (i : E) (t : Ty) (off : Nat)
  deriving DecidableEq

inductive SV where
  | one (c : SC)
  | agg (l : List SC)
  | tup (l : List (Bool × List SC))
  deriving DecidableEq

abbrev Cond := List (E × Bool)
def condB (ρ : Nat → D) (c : Cond) : Bool := c.all fun x => (den ρ x.1).toB == x.2

structure St where
  tm : Nat → Option (Cond × SV)
  hp : Nat → Option (Bool × List SC)
  live : Tag → Option (E × TypeId × Ty)

/-- What stands behind it: the cells that readings lean on, where the boxes lie, what the owned slices are. -/
structure Gh where
  S : Foot
  β : Nat → Nat
  τ : Tag → Value

def Ty.scalar : Ty → Bool
  | .int _ | .bool | .str | .list _ | .box _ | .ptr _ | .fn _ _ => true
  | _ => false
def SC.scalar : SC → Bool
  | .dat _ t => t.scalar
  | _ => true

def SC.lt (n : Nat) : SC → Bool
  | .dat e _ | .own _ e _ | .padr e _ _ | .clip e _ => e.lt n
  | .eadr l i _ _ => l.lt n && i.lt n
  | .xadr _ i _ _ => i.lt n
  | .nils _ | .adr .. | .xo .. => true
def SV.lt (n : Nat) : SV → Bool
  | .one c => c.lt n
  | .agg l => l.all (SC.lt n)
  | .tup l => l.all fun x => x.2.all (SC.lt n)

/-- N: the bound of the variables; M: the numbers of boxes and tags that are there. -/
structure Cx where
  ρ : Nat → D
  N : Nat
  M : Nat → Prop

def RSC (C : Cx) (w : World) (G : Gh) : SC → Value → Prop
  | .dat e t, v => e.lt C.N = true ∧ Rep w G.S v (den C.ρ e) ∧ Has t (den C.ρ e)
  | .nils _, v => v = .slice none 0 0
  | .own g e t, v => C.M g.1 ∧ e.lt C.N = true ∧ Rep w G.S v (den C.ρ e) ∧ Has (.list t) (den C.ρ e) ∧ v = G.τ g
  | .clip e t, v => e.lt C.N = true ∧ Rep w G.S v (den C.ρ e) ∧ Has (.list t) (den C.ρ e) ∧ ∃ a, v = .slice a (den C.ρ e).toL.length (den C.ρ e).toL.length
  | .adr id off, v => C.M id ∧ v = .pointer (some ⟨G.β id, off, none⟩)
  | .eadr l i t off, v => l.lt C.N = true ∧ i.lt C.N = true ∧ ∃ (b o : Nat) (u : Nat → Value), v = .pointer (some ⟨b, o + off, none⟩) ∧ Has t (den C.ρ (.bin .idx l i)) ∧
      ∀ (j : Nat) c, (den C.ρ (.bin .idx l i)).cells[j]? = some c → G.S b (o + j) ∧ w.cell? ⟨b, o + j, none⟩ = some (u j) ∧ Rep w G.S (u j) c
  | .padr e fs off, v => e.lt C.N = true ∧ ∃ (b : Nat) (l : List D) (u : Nat → Value), den C.ρ e = .ptr l ∧ HasL fs l ∧ v = .pointer (some ⟨b, off, none⟩) ∧
      ∀ (j : Nat) c, l[j]? = some c → G.S b j ∧ w.cell? ⟨b, j, none⟩ = some (u j) ∧ Rep w G.S (u j) c
  | .xo g _, v => C.M g.1 ∧ v = G.τ g ∧ ∃ a n cap, v = .slice a n cap
  | .xadr g i t off, v => C.M g.1 ∧ i.lt C.N = true ∧ ∃ b cap n, G.τ g = .slice (some ⟨b, 0, none⟩) n cap ∧ 0 ≤ (den C.ρ i).toI ∧ (den C.ρ i).toI.toNat < n ∧
      v = .pointer (some ⟨b, (den C.ρ i).toI.toNat * t.cells.length + off, none⟩)

def RSCs (C : Cx) (w : World) (G : Gh) (l : List SC) (vs : List Value) : Prop :=
  vs.length = l.length ∧ ∀ (i : Nat) c v, l[i]? = some c → vs[i]? = some v → RSC C w G c v

def RComp (C : Cx) (w : World) (G : Gh) (x : Bool × List SC) (v : Value) : Prop :=
  if x.1 then ∃ vs : List Value, v = .agg vs.toArray ∧ RSCs C w G x.2 vs else ∃ c, x.2 = [c] ∧ RSC C w G c v

def RSV (C : Cx) (w : World) (G : Gh) : SV → Value → Prop
  | .one c, v => RSC C w G c v
  | .agg l, v => ∃ vs : List Value, v = .agg vs.toArray ∧ RSCs C w G l vs
  | .tup l, v => ∃ vs : List Value, v = .tuple vs.toArray ∧ vs.length = l.length ∧ ∀ (i : Nat) x u, l[i]? = some x → vs[i]? = some u → RComp C w G x u

/-- A later state of the ghosts and of memory: what held goes on holding. -/
structure Later (C : Cx) (w : World) (G : Gh) (C' : Cx) (w' : World) (G' : Gh) : Prop where
  den : ∀ e : E, e.lt C.N = true → Eng.den C'.ρ e = Eng.den C.ρ e ∧ e.lt C'.N = true
  M : ∀ i, C.M i → C'.M i
  S : ∀ b o, G.S b o → G'.S b o
  cell : ∀ b o, G.S b o → w'.cell? ⟨b, o, none⟩ = w.cell? ⟨b, o, none⟩
  β : ∀ i, C.M i → G'.β i = G.β i
  τ : ∀ g : Tag, C.M g.1 → G'.τ g = G.τ g

section
variable {C C' : Cx} {w w' : World} {G G' : Gh} {v : Value}

theorem RSC.later (h : Later C w G C' w' G') : ∀ {c : SC}, RSC C w G c v → RSC C' w' G' c v
  | .dat e t, ⟨h1, h2, h3⟩ => by
    obtain ⟨h4, h5⟩ := h.den e h1
    exact ⟨h5, h4 ▸ h2.keep h.S h.cell, h4 ▸ h3⟩
  | .nils _, hv => hv
  | .own g e t, ⟨hm, h1, h2, h3, h6⟩ => by
    obtain ⟨h4, h5⟩ := h.den e h1
    exact ⟨h.M _ hm, h5, h4 ▸ h2.keep h.S h.cell, h4 ▸ h3, by rw [h.τ g hm]; exact h6⟩
  | .clip e t, ⟨h1, h2, h3, a, h6⟩ => by
    obtain ⟨h4, h5⟩ := h.den e h1
    exact ⟨h5, h4 ▸ h2.keep h.S h.cell, h4 ▸ h3, a, by rw [h4]; exact h6⟩
  | .adr id off, ⟨hm, hv⟩ => ⟨h.M _ hm, by rw [h.β id hm]; exact hv⟩
  | .eadr l i t off, ⟨hl, hi, b, o, u, hv, ht, hc⟩ => by
    have h4 : Eng.den C'.ρ (.bin .idx l i) = Eng.den C.ρ (.bin .idx l i) := (h.den (.bin .idx l i) (by simp [E.lt, hl, hi])).1
    refine ⟨(h.den l hl).2, (h.den i hi).2, b, o, u, hv, h4 ▸ ht, fun j c hj => ?_⟩
    rw [h4] at hj
    obtain ⟨h5, h6, h7⟩ := hc j c hj
    exact ⟨h.S _ _ h5, by rw [h.cell _ _ h5]; exact h6, h7.keep h.S h.cell⟩
  | .padr e fs off, ⟨he, b, l, u, h1, h2, hv, hc⟩ => by
    refine ⟨(h.den e he).2, b, l, u, by rw [(h.den e he).1]; exact h1, h2, hv, fun j c hj => ?_⟩
    obtain ⟨h5, h6, h7⟩ := hc j c hj
    exact ⟨h.S _ _ h5, by rw [h.cell _ _ h5]; exact h6, h7.keep h.S h.cell⟩
  | .xo g t, ⟨hm, hv, hsl⟩ => ⟨h.M _ hm, by rw [h.τ g hm]; exact hv, hsl⟩
  | .xadr g i t off, ⟨hm, hi, b, cap, n, h1, h2, h3, h4⟩ => ⟨h.M _ hm, (h.den i hi).2, b, cap, n, by rw [h.τ g hm]; exact h1, by rw [(h.den i hi).1]; exact h2, by rw [(h.den i hi).1]; exact h3, by rw [(h.den i hi).1]; exact h4⟩

theorem RSCs.later (h : Later C w G C' w' G') {l : List SC} {vs : List Value} (hr : RSCs C w G l vs) : RSCs C' w' G' l vs :=
  ⟨hr.1, fun i c v h1 h2 => (hr.2 i c v h1 h2).later h⟩

theorem RComp.later (h : Later C w G C' w' G') {x : Bool × List SC} (hr : RComp C w G x v) : RComp C' w' G' x v := by
  unfold RComp at *
  split
  · rename_i hx; rw [if_pos hx] at hr; obtain ⟨vs, h1, h2⟩ := hr; exact ⟨vs, h1, h2.later h⟩
  · rename_i hx; rw [if_neg hx] at hr; obtain ⟨c, h1, h2⟩ := hr; exact ⟨c, h1, h2.later h⟩

theorem RSV.later (h : Later C w G C' w' G') : ∀ {s : SV}, RSV C w G s v → RSV C' w' G' s v
  | .one _, hr => RSC.later h hr
  | .agg _, ⟨vs, h1, h2⟩ => ⟨vs, h1, h2.later h⟩
  | .tup _, ⟨vs, h1, h2, h3⟩ => ⟨vs, h1, h2, fun i x u hx hu => (h3 i x u hx hu).later h⟩

theorem Later.refl (C : Cx) (w : World) (G : Gh) : Later C w G C w G := ⟨fun _ h => ⟨rfl, h⟩, fun _ h => h, fun _ _ h => h, fun _ _ _ => rfl, fun _ _ => rfl, fun _ _ => rfl⟩

theorem Later.trans {C'' : Cx} {w'' : World} {G'' : Gh} (h : Later C w G C' w' G') (k : Later C' w' G' C'' w'' G'') : Later C w G C'' w'' G'' where
  den e he := by obtain ⟨h1, h2⟩ := h.den e he; obtain ⟨h3, h4⟩ := k.den e h2; exact ⟨h3.trans h1, h4⟩
  M i hi := k.M i (h.M i hi)
  S b o hs := k.S b o (h.S b o hs)
  cell b o hs := (k.cell b o (h.S b o hs)).trans (h.cell b o hs)
  β i hi := (k.β i (h.M i hi)).trans (h.β i hi)
  τ g hg := (k.τ g (h.M _ hg)).trans (h.τ g hg)

/-- One cell. -/
theorem Rep.oneCell {w : World} {S : Foot} {d : D} {t : Ty} (h : Rep w S v d) (ht : Has t d) (hs : t.scalar = true) : v.oneCell' = true := by
  cases h <;> first
    | rfl
    | (cases t <;> simp [Ty.scalar] at hs <;> simp [has_int, has_bool, has_str, has_list, has_box, has_ptr, has_fn] at ht)

theorem RSC.oneCell {c : SC} (h : RSC C w G c v) (hs : c.scalar = true) : v.oneCell' = true := by
  cases c with
  | dat e t => exact h.2.1.oneCell h.2.2 hs
  | nils t => simp only [RSC] at h; subst h; rfl
  | own g e t => exact h.2.2.1.oneCell h.2.2.2.1 rfl
  | clip e t => exact h.2.1.oneCell h.2.2.1 rfl
  | adr id off => obtain ⟨_, rfl⟩ := h; rfl
  | eadr l i t off => obtain ⟨_, _, b, o, u, rfl, _⟩ := h; rfl
  | padr e fs off => obtain ⟨_, b, l, u, _, _, rfl, _⟩ := h; rfl
  | xo g t => obtain ⟨_, _, a, n, cap, rfl⟩ := h; rfl
  | xadr g i t off => obtain ⟨_, _, b, cap, n, _, _, _, rfl⟩ := h; rfl

theorem Rep.aggOf {w : World} {S : Foot} {d : D} {fs : Ty} (h : Rep w S v d) (ht : Has (.agg fs) d) : ∃ l : List D, d = .agg l ∧ HasL fs l ∧ ∃ cs : List Value, v = .agg cs.toArray ∧ cs.length = l.length ∧
    ∀ (i : Nat) u c, cs[i]? = some u → l[i]? = some c → Rep w S u c := by
  obtain ⟨l, rfl, hl⟩ := has_agg.1 ht
  obtain ⟨cs, h1, h2, h3⟩ := h.inv_agg
  exact ⟨l, rfl, hl, cs, h1, h2, h3⟩
end

/-- What a live owned slice is. -/
structure OwnOk (C : Cx) (w : World) (base : Nat) (G : Gh) (g : Tag) (e : E) (T : TypeId) (t : Ty) : Prop where
  m : C.M g.1
  lt : e.lt C.N = true
  has : Has (.list t) (den C.ρ e)
  own : ∃ xs l, den C.ρ e = .list l ∧ w.ownsRow base T t.cells.length (G.τ g) l.length xs ∧ (∀ b, (G.τ g).ownBlock = some b → ∀ o, G.S b o ↔ g.ex = false ∧ o < xs.length) ∧
    ∀ (i : Nat) d (j : Nat) v c, l[i]? = some d → d.cells[j]? = some c → xs[i * t.cells.length + j]? = some v → Rep w G.S v c

/-- What a call was given: the cells that its arguments lean on; the blocks that it may write; its objects, by their numbers, and where they lie; whether what it makes is to lean on new blocks alone; whether all that readings lean on may be written. -/
structure Base where
  foot : Foot
  mu : Nat → Prop
  pin : Nat → Option Nat
  fr : Prop
  wz : Prop

/-- Of what was there only blocks that the call may write have turned. -/
structure BelowX (mu : Nat → Prop) (w w' : World) : Prop where
  os : w'.os = w.os
  tape : w'.tape = w.tape
  output : w'.output = w.output
  size : w.heap.size ≤ w'.heap.size
  block : ∀ k, k < w.heap.size → ¬ mu k → w'.heap[k]? = w.heap[k]?
theorem BelowX.refl (mu : Nat → Prop) (w : World) : BelowX mu w w := ⟨rfl, rfl, rfl, Nat.le_refl _, fun _ _ _ => rfl⟩
theorem BelowX.trans {mu : Nat → Prop} {a b c : World} (h : BelowX mu a b) (k : BelowX mu b c) : BelowX mu a c :=
  ⟨k.os.trans h.os, k.tape.trans h.tape, k.output.trans h.output, Nat.le_trans h.size k.size, fun i hi hm => (k.block i (Nat.lt_of_lt_of_le hi h.size) hm).trans (h.block i hi hm)⟩
theorem BelowX.of {mu : Nat → Prop} {w w' : World} (h : Below w.heap.size w w') : BelowX mu w w' := ⟨h.os, h.tape, h.output, h.size, fun k hk _ => h.block k hk⟩
theorem BelowX.to {mu : Nat → Prop} {w w' : World} (h : BelowX mu w w') (hm : ∀ b, ¬ mu b) : Below w.heap.size w w' := ⟨h.os, h.tape, h.output, h.size, fun k hk => h.block k hk (hm k)⟩
theorem BelowX.alloc {mu : Nat → Prop} {a w : World} (h : BelowX mu a w) (o : Obj) : BelowX mu a (w.alloc o) :=
  h.trans ⟨rfl, rfl, rfl, by simp, fun k hk _ => Below.heap_alloc _ _ _ hk⟩
theorem BelowX.drew {mu : Nat → Prop} {a w : World} (h : BelowX mu a w) : BelowX mu a { w with drawn := w.drawn + 1 } := ⟨h.os, h.tape, h.output, h.size, h.block⟩
/-- A block of the call's own, or one that it may write. -/
def NewB (w0 : World) (S0 : Base) (b : Nat) : Prop := w0.heap.size ≤ b ∨ S0.mu b
/-- A box: of the call's own, or an object that it was handed. -/
def BoxB (w0 : World) (S0 : Base) (b : Nat) : Prop := w0.heap.size ≤ b ∨ S0.mu b ∧ ∃ i, S0.pin i = some b

/-- A number, or the like, or a slice in one of these blocks. -/
def ValIn (X : Nat → Prop) : Value → Prop
  | .int _ _ => True
  | .bool _ => True
  | .string _ => True
  | .slice a n _ => n = 0 ∨ ∃ b o, a = some ⟨b, o, none⟩ ∧ X b
  | _ => False
theorem ValIn.mono {X Y : Nat → Prop} (h : ∀ b, X b → Y b) {v : Value} (hv : ValIn X v) : ValIn Y v := by
  cases v <;> first
    | exact hv
    | (rcases hv with hv | ⟨b, o, h1, h2⟩
       · exact .inl hv
       · exact .inr ⟨b, o, h1, h b h2⟩)
/-- Blocks of a kind that hold numbers and the like, and slices in such blocks. -/
def FrSet (z : Nat → Prop) (w : World) (S : Foot) (X : Nat → Prop) : Prop := ∀ b, X b → z b ∧ (∃ o, S b o) ∧ (∃ cur T, w.heap[b]? = some (.cells cur T (0, 0))) ∧ ∀ o v, S b o → w.cell? ⟨b, o, none⟩ = some v → ValIn X v
def FrB (z : Nat → Prop) (w : World) (S : Foot) (b : Nat) : Prop := ∃ X, FrSet z w S X ∧ X b
def FrV (z : Nat → Prop) (w : World) (S : Foot) (v : Value) : Prop := ∀ a n cap, v = .slice a n cap → ValIn (FrB z w S) v
theorem FrB.set (z : Nat → Prop) (w : World) (S : Foot) : FrSet z w S (FrB z w S) := by
  rintro b ⟨X, hX, hb⟩
  obtain ⟨h1, h2, h4, h3⟩ := hX b hb
  exact ⟨h1, h2, h4, fun o v hs hc => (h3 o v hs hc).mono fun b hb => ⟨X, hX, hb⟩⟩
theorem FrB.mono {z : Nat → Prop} {w w' : World} {S S' : Foot} (hh : ∀ b o, S b o → w'.heap[b]? = w.heap[b]?) (hS : ∀ b o, S b o → S' b o) (hnew : ∀ b o, S' b o → (∃ o', S b o') → S b o) {b : Nat} (h : FrB z w S b) : FrB z w' S' b := by
  obtain ⟨X, hX, hb⟩ := h
  refine ⟨X, fun b' hb' => ?_, hb⟩
  obtain ⟨h1, ⟨o1, h2⟩, h4, h3⟩ := hX b' hb'
  refine ⟨h1, ⟨o1, hS _ _ h2⟩, by rw [hh _ _ h2]; exact h4, fun o v hs hcv => ?_⟩
  have hs' := hnew b' o hs ⟨o1, h2⟩
  exact h3 o v hs' (by rw [← hcv]; simp only [World.cell?, hh _ _ hs'])

theorem FrV.mono {z : Nat → Prop} {w w' : World} {S S' : Foot} (hh : ∀ b o, S b o → w'.heap[b]? = w.heap[b]?) (hS : ∀ b o, S b o → S' b o) (hnew : ∀ b o, S' b o → (∃ o', S b o') → S b o) {v : Value} (h : FrV z w S v) : FrV z w' S' v :=
  fun a n cap hv => (h a n cap hv).mono fun _ hb => hb.mono hh hS hnew
theorem FrV.weak {z z' : Nat → Prop} {w : World} {S : Foot} {v : Value} (h : FrV z w S v) (hz : ∀ b, z b → z' b) : FrV z' w S v := fun a n cap hv => (h a n cap hv).mono fun b hb => by
  obtain ⟨X, hX, hb⟩ := hb
  exact ⟨X, fun b' hb' => by obtain ⟨h1, h2, h3, h4⟩ := hX b' hb'; exact ⟨hz b' h1, h2, h3, h4⟩, hb⟩
theorem FrV.nilIface {z : Nat → Prop} {w : World} {S : Foot} : FrV z w S .nilIface := fun _ _ _ h => by cases h

/-- Memory is as the state says. -/
structure SimM (w0 : World) (S0 : Base) (C : Cx) (G : Gh) (σ : St) (w : World) : Prop where
  below : BelowX S0.mu w0 w
  foot0 : ∀ b o, S0.foot b o → G.S b o
  keep : ∀ b o, S0.foot b o → w.cell? ⟨b, o, none⟩ = w0.cell? ⟨b, o, none⟩
  pin : ∀ i b, S0.pin i = some b → C.M i ∧ G.β i = b
  pinmu : ∀ i b, S0.pin i = some b → True
  footlt : ∀ b o, G.S b o → b < w.heap.size
  footnew : ∀ b o, G.S b o → S0.foot b o ∨ NewB w0 S0 b
  boxM : ∀ id x, σ.hp id = some x → C.M id
  box : ∀ id ro cs, σ.hp id = some (ro, cs) → BoxB w0 S0 (G.β id) ∧ (cs.all SC.scalar = true) ∧ (∃ (vs : List Value) (T : TypeId), w.heap[G.β id]? = some (.cells vs.toArray T (0, 0)) ∧ RSCs C w G cs vs) ∧
    (if ro then ∀ o, o < cs.length → G.S (G.β id) o else ∀ o, ¬ G.S (G.β id) o)
  inj : ∀ i j x y, σ.hp i = some x → σ.hp j = some y → G.β i = G.β j → i = j
  own : ∀ g e T t, σ.live g = some (e, T, t) → OwnOk C w 0 G g e T t
  ownnew : ∀ g x b, σ.live g = some x → (G.τ g).ownBlock = some b → NewB w0 S0 b
  ownne : ∀ g g' x y b, σ.live g = some x → σ.live g' = some y → (G.τ g).ownBlock = some b → (G.τ g').ownBlock = some b → g = g'
  ownbox : ∀ g id x y b, σ.live g = some x → σ.hp id = some y → (G.τ g).ownBlock = some b → b ≠ G.β id
  fresh : S0.fr → ∀ g, FrV (NewB w0 S0) w G.S (G.τ g)
  wz : S0.wz → ∀ b o, G.S b o → ∃ cur T, w.heap[b]? = some (.cells cur T (0, 0))

theorem SimM.newB {w0 : World} {S0 : Base} {C : Cx} {G : Gh} {σ : St} {w : World} (h : SimM w0 S0 C G σ w) {b : Nat} (hb : BoxB w0 S0 b) : NewB w0 S0 b := by
  rcases hb with hb | ⟨hm, _⟩
  · exact .inl hb
  · exact .inr hm

/-- The temporaries are. -/
def SimT (C : Cx) (w : World) (G : Gh) (tm : Nat → Option (Cond × SV)) (a : Act) : Prop :=
  ∀ t c s, tm t = some (c, s) → ∃ v, a.tmps[t]? = some v ∧ (∀ x ∈ c, x.1.lt C.N = true) ∧ s.lt C.N = true ∧ (if condB C.ρ c then RSV C w G s v else v = undef)

structure Sim (n : Nat) (w0 : World) (S0 : Base) (C : Cx) (G : Gh) (σ : St) (a : Act) (w : World) : Prop where
  m : SimM w0 S0 C G σ w
  t : SimT C w G σ.tm a
  sz : a.tmps.size = n
  defers : a.defers = []

theorem condB_later {C C' : Cx} {w w' : World} {G G' : Gh} (h : Later C w G C' w' G') {c : Cond} (hc : ∀ x ∈ c, x.1.lt C.N = true) : condB C'.ρ c = condB C.ρ c := by
  unfold condB
  rw [Bool.eq_iff_iff, List.all_eq_true, List.all_eq_true]
  constructor
  · intro H x hx
    rw [← (h.den x.1 (hc x hx)).1]; exact H x hx
  · intro H x hx
    rw [(h.den x.1 (hc x hx)).1]; exact H x hx

theorem SC.lt_later {C C' : Cx} {w w' : World} {G G' : Gh} (h : Later C w G C' w' G') {c : SC} (hc : c.lt C.N = true) : c.lt C'.N = true := by
  cases c <;> simp only [SC.lt, Bool.and_eq_true] at hc ⊢
  all_goals first | trivial | exact (h.den _ hc).2 | exact ⟨(h.den _ hc.1).2, (h.den _ hc.2).2⟩
theorem SV.lt_later {C C' : Cx} {w w' : World} {G G' : Gh} (h : Later C w G C' w' G') {s : SV} (hs : s.lt C.N = true) : s.lt C'.N = true := by
  cases s <;> simp only [SV.lt, List.all_eq_true] at hs ⊢
  · exact SC.lt_later h hs
  · exact fun c hc => SC.lt_later h (hs c hc)
  · exact fun x hx c hc => SC.lt_later h (hs x hx c hc)

theorem SimT.later {C C' : Cx} {w w' : World} {G G' : Gh} {tm : Nat → Option (Cond × SV)} {a : Act} (h : Later C w G C' w' G') (ht : SimT C w G tm a) : SimT C' w' G' tm a := by
  intro t c s hs
  obtain ⟨v, h1, h2, h0, h3⟩ := ht t c s hs
  refine ⟨v, h1, fun x hx => (h.den _ (h2 x hx)).2, SV.lt_later h h0, ?_⟩
  rw [condB_later h h2]
  split
  · rename_i hc; rw [if_pos hc] at h3; exact h3.later h
  · rename_i hc; rw [if_neg hc] at h3; exact h3

/-- A temporary is set. -/
theorem SimT.put {C : Cx} {w : World} {G : Gh} {tm : Nat → Option (Cond × SV)} {a : Act} (ht : SimT C w G tm a) (d : Option Nat) (v : Value) (c : Cond) (s : SV)
    (hc : ∀ x ∈ c, x.1.lt C.N = true) (hs0 : s.lt C.N = true) (hv : if condB C.ρ c then RSV C w G s v else v = undef) (hsz : ∀ i, d = some i → i < a.tmps.size) :
    SimT C w G (match d with | some i => upd tm i (some (c, s)) | none => tm) (a.put d v) := by
  cases d with
  | none => exact ht
  | some i =>
    intro t c' s' hs
    by_cases hti : t = i
    · subst hti
      simp only [upd_same, Option.some.injEq, Prod.mk.injEq] at hs
      obtain ⟨rfl, rfl⟩ := hs
      exact ⟨v, by simp [Act.put, hsz t rfl], hc, hs0, hv⟩
    · simp only [upd_ne _ _ hti] at hs
      obtain ⟨u, h1, h2⟩ := ht t c' s' hs
      exact ⟨u, by simp only [Act.put]; rw [Array.getElem?_setIfInBounds_ne (Ne.symm hti)]; exact h1, h2⟩

end Go.Eng
