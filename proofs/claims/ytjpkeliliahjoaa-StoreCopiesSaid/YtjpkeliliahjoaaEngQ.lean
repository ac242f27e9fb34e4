/-
  A loop's head: what may have turned is a new variable; that a state fits a head.
-/
import Derived.Test.YtjpkeliliahjoaaEngP
namespace Go.Eng
open Go Go.RowKit

/-- An owned slice: its element's type; whether it is of its own kind. -/
abbrev OwnK := TypeId × Bool
inductive Slot where
  | tmp (t : Nat)
  | cell (id i : Nat)
  deriving DecidableEq

/-- What may turn in a loop's rounds: the owned slices among the temporaries and their elements' types; the variables (by the temporaries that hold their addresses) with their owned cells; what need not be kept. -/
structure Ann where
  own : List (Nat × TypeId) := []
  boxes : List (Nat × List (Nat × TypeId)) := []
  drop : List Nat := []
/-- Slices that are nil ahead of a loop are of their own kind: told by a number among what need not be kept. -/
def Ann.ex (a : Ann) : Bool := a.drop.contains 1000002

structure Head where
  v0 : Nat
  slots : List (Slot × Ty × Option OwnK)
  st : St
  keep : List Tag

def Head.size (h : Head) : Nat := h.slots.length
def slotNew (v : Nat) (ty : Ty) : Option OwnK → SC
  | none => .dat (.var v) ty
  | some (_, false) => .own (v, 0) (.var v) ty
  | some (_, true) => .xo (v, 1000) ty
def slotTag (v : Nat) (T : OwnK) : Tag := (v, if T.2 then 1000 else 0)
theorem slotTag_ex (v : Nat) (T : OwnK) : (slotTag v T).ex = T.2 := by obtain ⟨T, _ | _⟩ := T <;> rfl
def slotTy (ty : Ty) : Option OwnK → Ty
  | none => ty
  | some _ => .list ty

def slotOf (σ : St) : Slot → Option SC
  | .tmp t => match σ.tm t with
    | some ([], .one c) => some c
    | _ => none
  | .cell id i => match σ.hp id with
    | some (_, cs) => cs[i]?
    | none => none

/-- What a slot holds, as an expression; where it is owned: which. -/
def slotVal (σ : St) (x : Slot × Ty × Option OwnK) : Option (E × Option Tag) :=
  match slotOf σ x.1 with
  | some c =>
    match x.2.2 with
    | none => match asData c with
      | some (e, t) => if t = x.2.1 then some (e, none) else none
      | none => none
    | some T => match c with
      | .nils t => if t = x.2.1 then some (.nil, none) else none
      | .own g _ t => match σ.live g with
        | some (e, T', t') => if t = x.2.1 ∧ T' = T.1 ∧ t' = x.2.1 ∧ T.2 = false ∧ g.ex = false then some (e, some g) else none
        | none => none
      | .xo g t => match σ.live g with
        | some (e, T', t') => if t = x.2.1 ∧ T' = T.1 ∧ t' = x.2.1 ∧ T.2 = true ∧ g.ex = true then some (e, some g) else none
        | none => none
      | _ => none
  | none => none

def slotVals (σ : St) : List (Slot × Ty × Option OwnK) → Option (List (E × Option Tag))
  | [] => some []
  | x :: r => match slotVal σ x, slotVals σ r with
    | some y, some ys => some (y :: ys)
    | _, _ => none

def slotIdx (s : Slot) : List (Slot × Ty × Option OwnK) → Nat → Option (Nat × Ty × Option OwnK)
  | [], _ => none
  | x :: r, j => if x.1 = s then some (j, x.2) else slotIdx s r (j + 1)

/-- Ids of boxes and tags below a bound. -/
def SC.ids (n : Nat) : SC → Bool
  | .own g _ _ => g.1 < n
  | .adr id _ => id < n
  | .xo g _ => g.1 < n
  | .xadr g _ _ _ => g.1 < n
  | _ => true
def SV.ids (n : Nat) : SV → Bool
  | .one c => c.ids n
  | .agg l => l.all (SC.ids n)
  | .tup l => l.all fun x => x.2.all (SC.ids n)

def fitTm (n : Nat) (h : Head) (σ : St) : Bool := (List.range n).all fun t =>
  match h.st.tm t with
  | none => true
  | some (c, s) => match slotIdx (.tmp t) h.slots 0 with
    | some (j, ty, T) => decide (c = [] ∧ s = .one (slotNew (h.v0 + j) ty T))
    | none => decide (σ.tm t = some (c, s)) && s.lt h.v0 && s.ids h.v0 && c.all fun x => x.1.lt h.v0

def fitCells (h : Head) (id : Nat) : Nat → List SC → List SC → Bool
  | _, [], [] => true
  | i, c :: r, c' :: r' => (match slotIdx (.cell id i) h.slots 0 with
    | some (j, ty, T) => decide (c = slotNew (h.v0 + j) ty T)
    | none => decide (c' = c) && c.lt h.v0 && c.ids h.v0 && c.scalar) && fitCells h id (i + 1) r r'
  | _, _, _ => false

def fitHp (h : Head) (σ : St) : Bool := (List.range h.v0).all fun id =>
  match h.st.hp id with
  | none => true
  | some (ro, cs) => match σ.hp id with
    | some (ro', cs') => ro == ro' && fitCells h id 0 cs cs'
    | none => false

def fitLive (h : Head) (σ : St) (tags : List (Option Tag)) : Bool := h.keep.all fun g =>
  match h.st.live g with
  | none => true
  | some x => decide (σ.live g = some x) && decide (g.1 < h.v0) && x.1.lt h.v0 && !tags.contains (some g)

/-- The state fits the head: with which values. -/
def fitSt (n : Nat) (h : Head) (σ : St) : Option (List E) :=
  match slotVals σ h.slots with
  | some vs =>
    let tags := vs.map (·.2)
    if fitTm n h σ && fitHp h σ && fitLive h σ tags && nodupTags tags && (h.slots.all fun x => (slotTy x.2.1 x.2.2).scalar && (x.2.2.isNone || decide (0 < x.2.1.cells.length))) then some (vs.map (·.1)) else none
  | none => none

/-- The head's own form: nothing beyond its bounds. -/
structure HeadOk (n : Nat) (h : Head) : Prop where
  tm : ∀ t, n ≤ t → h.st.tm t = none
  hp : ∀ id, h.v0 ≤ id → h.st.hp id = none
  live : ∀ g x, h.st.live g = some x → g ∈ h.keep ∨ ∃ j ty T, h.slots[j]? = some (ty, T) ∧ ∃ T', T.2 = some T' ∧ g = slotTag (h.v0 + j) T' ∧ x = (.var (h.v0 + j), T'.1, T.1)

def assigned : Code → List Nat
  | .region _ ops _ => ops.toList.filterMap (·.dst)
  | .seq a b => assigned a ++ assigned b
  | .cond _ a b => assigned a ++ assigned b
  | .block _ c | .loop c | .scope c => assigned c
  | _ => []

def dedup : List Nat → List Nat
  | [] => []
  | x :: r => if r.contains x then dedup r else x :: dedup r

def cellSlots (ex : Bool) (id : Nat) (owns : List (Nat × TypeId)) : Nat → List SC → List (Slot × Ty × Option OwnK)
  | _, [] => []
  | i, c :: r =>
    (match lk owns i, c with
      | some T, .nils t => [(.cell id i, t, some (T, ex))]
      | some T, .own _ _ t => [(.cell id i, t, some (T, false))]
      | some T, .xo _ t => [(.cell id i, t, some (T, true))]
      | _, c => match asData c with
        | some (_, t) => [(.cell id i, t, none)]
        | none => []) ++ cellSlots ex id owns (i + 1) r

def headCells (slots : List (Slot × Ty × Option OwnK)) (v0 id : Nat) : Nat → List SC → List SC
  | _, [] => []
  | i, c :: r => (match slotIdx (.cell id i) slots 0 with
    | some (j, ty, T) => slotNew (v0 + j) ty T
    | none => c) :: headCells slots v0 id (i + 1) r

def scTags : SC → List Tag
  | .own g _ _ => [g]
  | .xo g _ => [g]
  | _ => []
def svTags : SV → List Tag
  | .one c => scTags c
  | .agg l => l.flatMap scTags
  | .tup l => l.flatMap fun x => x.2.flatMap scTags

def newLive (v0 : Nat) : Nat → List (Slot × Ty × Option OwnK) → List (Tag × (E × TypeId × Ty))
  | _, [] => []
  | j, (_, ty, T) :: r => (match T with
    | some T => [(slotTag (v0 + j) T, (E.var (v0 + j), T.1, ty))]
    | none => []) ++ newLive v0 (j + 1) r

def mkHead (n : Nat) (ann : Ann) (A0 : List Nat) (σ : St) (v0 : Nat) : Head :=
  let A := dedup A0
  let ts := A.filterMap fun t =>
    if ann.drop.contains t then none else
    match σ.tm t with
    | some ([], .one c) => match lk ann.own t, c with
      | some T, .nils ty => some (Slot.tmp t, ty, some (T, ann.ex))
      | some T, .own _ _ ty => some (Slot.tmp t, ty, some (T, false))
      | some T, .xo _ ty => some (Slot.tmp t, ty, some (T, true))
      | _, c => match asData c with
        | some (_, ty) => some (Slot.tmp t, ty, none)
        | none => none
    | _ => none
  let bs := ann.boxes.flatMap fun x =>
    match σ.tm x.1 with
    | some ([], .one (.adr id 0)) => match σ.hp id with
      | some (false, cs) => cellSlots ann.ex id x.2 0 cs
      | _ => []
    | _ => []
  let slots := ts ++ bs
  let gone := (slots.filterMap fun x => slotVal σ x).filterMap (·.2)
  let keep := (((List.range n).flatMap fun t => match σ.tm t with | some (_, s) => svTags s | none => []) ++
    ((List.range v0).flatMap fun id => match σ.hp id with | some (_, cs) => cs.flatMap scTags | none => [])).filter fun g => !gone.contains g
  let nl := newLive v0 0 slots
  { v0, slots, keep,
    st := {
      tm := fun t => if t < n then (if A.contains t then (match slotIdx (.tmp t) slots 0 with | some (j, ty, T) => some ([], .one (slotNew (v0 + j) ty T)) | none => none) else σ.tm t) else none
      hp := fun id => if id < v0 then (match σ.hp id with | some (ro, cs) => some (ro, headCells slots v0 id 0 cs) | none => none) else none
      live := fun g => match lk nl g with | some x => some x | none => if keep.contains g then σ.live g else none } }

theorem newLive_get : ∀ {l : List (Slot × Ty × Option OwnK)} {v0 k : Nat} {g : Tag} {x : E × TypeId × Ty}, lk (newLive v0 k l) g = some x → ∃ j ty T, l[j]? = some (ty, T) ∧ ∃ T', T.2 = some T' ∧ g = slotTag (v0 + (k + j)) T' ∧ x = (.var (v0 + (k + j)), T'.1, T.1)
  | [], _, _, _, _, h => by cases h
  | (s, ty, T) :: r, v0, k, g, x, h => by
    have step : ∀ {y}, lk (newLive v0 (k + 1) r) g = some y → ∃ j ty' T', ((s, ty, T) :: r)[j]? = some (ty', T') ∧ ∃ T'', T'.2 = some T'' ∧ g = slotTag (v0 + (k + j)) T'' ∧ y = (.var (v0 + (k + j)), T''.1, T'.1) := by
      intro y hy
      obtain ⟨j, ty', T', h1, h3⟩ := newLive_get hy
      refine ⟨j + 1, ty', T', by simpa using h1, ?_⟩
      rw [show k + (j + 1) = k + 1 + j by omega]; exact h3
    cases T with
    | none => simp only [newLive, List.nil_append] at h; exact step h
    | some T0 =>
      simp only [newLive, List.cons_append, List.nil_append, lk] at h
      split at h
      · rename_i hg
        injection h with h
        exact ⟨0, s, (ty, some T0), rfl, T0, rfl, hg, h.symm⟩
      · exact step h

theorem mkHead_ok (n : Nat) (ann : Ann) (A : List Nat) (σ : St) (v0 : Nat) : HeadOk n (mkHead n ann A σ v0) where
  tm t ht := by simp only [mkHead]; rw [if_neg (by omega)]
  hp id hid := by
    have h : v0 ≤ id := hid
    simp only [mkHead]; rw [if_neg (by omega)]
  live g x hx := by
    simp only [mkHead] at hx
    split at hx
    · rename_i y hy
      injection hx with hx; subst hx
      obtain ⟨j, ty, T, h1, h3⟩ := newLive_get hy
      rw [Nat.zero_add] at h3
      exact .inr ⟨j, ty, T, h1, h3⟩
    · split at hx
      · rename_i hk
        exact .inl (by simpa [mkHead] using hk)
      · cases hx

def updV (ρ : Nat → D) (v0 : Nat) (xs : List D) : Nat → D := fun i => if v0 ≤ i ∧ i < v0 + xs.length then xs.getD (i - v0) .top else ρ i
theorem updV_lt {ρ : Nat → D} {v0 : Nat} {xs : List D} {i : Nat} (h : i < v0) : updV ρ v0 xs i = ρ i := by unfold updV; rw [if_neg (by omega)]
theorem updV_at {ρ : Nat → D} {v0 : Nat} {xs : List D} {j : Nat} {d : D} (h : xs[j]? = some d) : updV ρ v0 xs (v0 + j) = d := by
  have hl : j < xs.length := (List.getElem?_eq_some_iff.1 h).1
  unfold updV
  rw [if_pos ⟨by omega, by omega⟩, show v0 + j - v0 = j by omega]
  exact toL_getD h

theorem slotIdx_get {s : Slot} : ∀ {l : List (Slot × Ty × Option OwnK)} {k j : Nat} {y : Ty × Option OwnK}, slotIdx s l k = some (j, y) → k ≤ j ∧ l[j - k]? = some (s, y)
  | [], _, _, _, h => by cases h
  | x :: r, k, j, y, h => by
    simp only [slotIdx] at h
    split at h
    · rename_i hx
      injection h with h; simp only [Prod.mk.injEq] at h; obtain ⟨rfl, rfl⟩ := h
      refine ⟨Nat.le_refl _, ?_⟩
      rw [Nat.sub_self, ← hx]; rfl
    · obtain ⟨h1, h2⟩ := slotIdx_get h
      refine ⟨by omega, ?_⟩
      rw [show j - k = (j - (k + 1)) + 1 by omega]
      simpa using h2

theorem slotVals_get {σ : St} : ∀ {l : List (Slot × Ty × Option OwnK)} {vs : List (E × Option Tag)}, slotVals σ l = some vs → vs.length = l.length ∧ ∀ (j : Nat) x y, l[j]? = some x → vs[j]? = some y → slotVal σ x = some y
  | [], vs, h => by simp only [slotVals, Option.some.injEq] at h; subst h; exact ⟨rfl, by intro j x y hj; simp at hj⟩
  | x :: r, vs, h => by
    simp only [slotVals] at h
    split at h
    · rename_i y ys h1 h2
      injection h with h; subst h
      obtain ⟨k1, k2⟩ := slotVals_get h2
      refine ⟨by simp [k1], fun j x' y' hx hy => ?_⟩
      cases j with
      | zero => simp at hx hy; subst hx; subst hy; exact h1
      | succ j => exact k2 j x' y' (by simpa using hx) (by simpa using hy)
    · cases h

section
variable {C : Cx} {G : Gh} {w w0 : World} {S0 : Base} {σ : St} {a : Act} {n : Nat}

theorem RSC.shrink {c : SC} {v : Value} {v0 : Nat} {C' : Cx} {G' : Gh} (h : RSC C w G c v) (hlt : c.lt v0 = true) (hid : c.ids v0 = true) (hρ : ∀ i, i < v0 → C'.ρ i = C.ρ i) (hN : v0 ≤ C'.N) (hM : ∀ i, i < v0 → C'.M i)
    (hS : G'.S = G.S) (hβ : ∀ i, i < v0 → G'.β i = G.β i) (hτ : ∀ g : Tag, g.1 < v0 → G'.τ g = G.τ g) : RSC C' w G' c v := by
  have dn : ∀ {e : E}, e.lt v0 = true → den C'.ρ e = den C.ρ e := fun he => den_agree hρ he
  have up : ∀ {e : E}, e.lt v0 = true → e.lt C'.N = true := by
    intro e
    induction e with
    | var i => intro he; simp only [E.lt, decide_eq_true_eq] at he ⊢; omega
    | kint | kbool | kstr | nilp | nil => intro _; rfl
    | cons a b iha ihb => intro he; simp only [E.lt, Bool.and_eq_true] at he ⊢; exact ⟨iha he.1, ihb he.2⟩
    | un o e ih => intro he; exact ih he
    | bin o a b iha ihb => intro he; simp only [E.lt, Bool.and_eq_true] at he ⊢; exact ⟨iha he.1, ihb he.2⟩
    | ite c a b ihc iha ihb => intro he; simp only [E.lt, Bool.and_eq_true] at he ⊢; exact ⟨⟨ihc he.1.1, iha he.1.2⟩, ihb he.2⟩
  cases c with
  | dat e t => exact ⟨up hlt, by rw [dn hlt, hS]; exact h.2.1, by rw [dn hlt]; exact h.2.2⟩
  | nils t => exact h
  | own g e t =>
    have hg : g.1 < v0 := by simpa [SC.ids] using hid
    obtain ⟨_, _, h3, h4, h5⟩ := h
    exact ⟨hM _ hg, up hlt, by rw [dn hlt, hS]; exact h3, by rw [dn hlt]; exact h4, by rw [hτ g hg]; exact h5⟩
  | clip e t =>
    obtain ⟨_, h3, h4, b, h5⟩ := h
    exact ⟨up hlt, by rw [dn hlt, hS]; exact h3, by rw [dn hlt]; exact h4, b, by rw [dn hlt]; exact h5⟩
  | adr id off =>
    have hg : id < v0 := by simpa [SC.ids] using hid
    exact ⟨hM _ hg, by rw [hβ id hg]; exact h.2⟩
  | eadr l i t off =>
    simp only [SC.lt, Bool.and_eq_true] at hlt
    obtain ⟨_, _, b, o, u, hv, hh, hc⟩ := h
    have e1 : den C'.ρ (.bin .idx l i) = den C.ρ (.bin .idx l i) := dn (by simp [E.lt, hlt])
    exact ⟨up hlt.1, up hlt.2, b, o, u, hv, by rw [e1]; exact hh, by rw [e1, hS]; exact hc⟩
  | padr e fs off =>
    obtain ⟨_, b, l, u, hd, hh, hv, hc⟩ := h
    exact ⟨up hlt, b, l, u, by rw [dn hlt]; exact hd, hh, hv, by rw [hS]; exact hc⟩
  | xo g t =>
    have hg : g.1 < v0 := by simpa [SC.ids] using hid
    exact ⟨hM _ hg, by rw [hτ g hg]; exact h.2.1, h.2.2⟩
  | xadr g i t off =>
    have hg : g.1 < v0 := by simpa [SC.ids] using hid
    obtain ⟨_, _, b, cap, n, h1, h2, h3, h4⟩ := h
    have hlt' : i.lt v0 = true := hlt
    exact ⟨hM _ hg, up hlt', b, cap, n, by rw [hτ g hg]; exact h1, by rw [dn hlt']; exact h2, by rw [dn hlt']; exact h3, by rw [dn hlt']; exact h4⟩

theorem SV.cases_shrink {s : SV} {v : Value} {v0 : Nat} {C' : Cx} {G' : Gh} (h : RSV C w G s v) (hlt : s.lt v0 = true) (hid : s.ids v0 = true)
    (hsc : ∀ {c : SC} {u : Value}, RSC C w G c u → c.lt v0 = true → c.ids v0 = true → RSC C' w G' c u) : RSV C' w G' s v := by
  cases s with
  | one c => exact hsc h hlt hid
  | agg l =>
    obtain ⟨vs, h1, h2, h3⟩ := h
    simp only [SV.lt, SV.ids, List.all_eq_true] at hlt hid
    exact ⟨vs, h1, h2, fun i c u hc hu => hsc (h3 i c u hc hu) (hlt c (List.mem_of_getElem? hc)) (hid c (List.mem_of_getElem? hc))⟩
  | tup l =>
    obtain ⟨vs, h1, h2, h3⟩ := h
    simp only [SV.lt, SV.ids, List.all_eq_true] at hlt hid
    refine ⟨vs, h1, h2, fun i x u hx hu => ?_⟩
    have hm := List.mem_of_getElem? hx
    have h4 := h3 i x u hx hu
    unfold RComp at h4 ⊢
    split
    · rename_i hx1
      rw [if_pos hx1] at h4
      obtain ⟨us, h5, h6, h7⟩ := h4
      exact ⟨us, h5, h6, fun i c u hc hu => hsc (h7 i c u hc hu) (hlt x hm c (List.mem_of_getElem? hc)) (hid x hm c (List.mem_of_getElem? hc))⟩
    · rename_i hx1
      rw [if_neg hx1] at h4
      obtain ⟨c, h5, h6⟩ := h4
      exact ⟨c, h5, hsc h6 (hlt x hm c (by rw [h5]; simp)) (hid x hm c (by rw [h5]; simp))⟩

theorem fitCells_get {h : Head} {id : Nat} : ∀ {k : Nat} {l l' : List SC}, fitCells h id k l l' = true → l.length = l'.length ∧ ∀ (i : Nat) c c', l[i]? = some c → l'[i]? = some c' →
    (∃ j ty T, slotIdx (.cell id (k + i)) h.slots 0 = some (j, ty, T) ∧ c = slotNew (h.v0 + j) ty T) ∨ (c' = c ∧ c.lt h.v0 = true ∧ c.ids h.v0 = true ∧ c.scalar = true)
  | k, [], [], _ => ⟨rfl, by intro i c c' hi; simp at hi⟩
  | k, c :: r, c' :: r', hf => by
    simp only [fitCells, Bool.and_eq_true] at hf
    obtain ⟨h1, h2⟩ := hf
    obtain ⟨k1, k2⟩ := fitCells_get h2
    refine ⟨by simp [k1], fun i x x' hx hx' => ?_⟩
    cases i with
    | zero =>
      simp at hx hx'; subst hx; subst hx'
      split at h1
      · rename_i j ty T hs
        exact .inl ⟨j, ty, T, hs, by simpa using h1⟩
      · simp only [Bool.and_eq_true, decide_eq_true_eq] at h1
        exact .inr ⟨h1.1.1.1, h1.1.1.2, h1.1.2, h1.2⟩
    | succ i =>
      have := k2 i x x' (by simpa using hx) (by simpa using hx')
      rw [show k + (i + 1) = k + 1 + i by omega]; exact this
  | _, [], _ :: _, h => by cases h
  | _, _ :: _, [], h => by cases h

/-- A state that fits a head stands at that head. -/
theorem fitSt_ok {h : Head} {es : List E} {ρ0 : Nat → D} (hs : Sim n w0 S0 C G σ a w) (hok : HeadOk n h) (hfit : fitSt n h σ = some es) (hρ0 : ∀ i, i < h.v0 → ρ0 i = C.ρ i) (hpin : ∀ i b, S0.pin i = some b → i < h.v0) :
    es.length = h.size ∧ (∀ (j : Nat) x e, h.slots[j]? = some x → es[j]? = some e → Has (slotTy x.2.1 x.2.2) (den C.ρ e)) ∧
    ∃ G', Sim n w0 S0 ⟨updV ρ0 h.v0 (es.map (den C.ρ)), h.v0 + h.size, fun i => i < h.v0 + h.size⟩ G' h.st a w := by
  unfold fitSt at hfit
  split at hfit
  · rename_i vs hvs
    simp only at hfit
    split at hfit
    · rename_i hc
      injection hfit with hfit
      simp only [Bool.and_eq_true] at hc
      obtain ⟨⟨⟨⟨htm, hhp⟩, hlv⟩, hnd⟩, hsl⟩ := hc
      obtain ⟨hvl, hvg⟩ := slotVals_get hvs
      have hesl : es.length = h.size := by rw [← hfit, List.length_map, hvl]; rfl
      have hesg : ∀ (j : Nat) x, vs[j]? = some x → es[j]? = some x.1 := by intro j x hx; rw [← hfit, List.getElem?_map, hx]; rfl
      let ρ' := updV ρ0 h.v0 (es.map (den C.ρ))
      let C' : Cx := ⟨ρ', h.v0 + h.size, fun i => i < h.v0 + h.size⟩
      let τ' : Tag → Value := fun g => if h.v0 ≤ g.1 then (match vs[g.1 - h.v0]? with | some (_, some g') => G.τ g' | _ => .slice none 0 0) else G.τ g
      let G' : Gh := ⟨G.S, G.β, τ'⟩
      have hρ : ∀ i, i < h.v0 → C'.ρ i = C.ρ i := fun i hi => (updV_lt hi).trans (hρ0 i hi)
      have hτ : ∀ g : Tag, g.1 < h.v0 → G'.τ g = G.τ g := fun g hg => if_neg (by omega)
      have hτn : ∀ (j : Nat) x, vs[j]? = some x → ∀ q : Nat, G'.τ (h.v0 + j, q) = (match x.2 with | some g' => G.τ g' | none => .slice none 0 0) := by
        intro j x hx q
        show (if h.v0 ≤ h.v0 + j then _ else _) = _
        rw [if_pos (by omega)]
        simp only [Nat.add_sub_cancel_left, hx]
        obtain ⟨e, _ | g'⟩ := x <;> rfl
      have shrink : ∀ {c : SC} {u : Value}, RSC C w G c u → c.lt h.v0 = true → c.ids h.v0 = true → RSC C' w G' c u := fun h1 h2 h3 => h1.shrink h2 h3 hρ (Nat.le_add_right _ _) (fun i hi => Nat.lt_of_lt_of_le hi (Nat.le_add_right _ _)) rfl (fun _ _ => rfl) hτ
      have hden : ∀ (j : Nat) x, vs[j]? = some x → den C'.ρ (.var (h.v0 + j)) = den C.ρ x.1 := by
        intro j x hx
        show updV ρ0 h.v0 _ _ = _
        exact updV_at (by rw [List.getElem?_map, hesg j x hx]; rfl)
      have hjlt : ∀ {j : Nat} {x}, h.slots[j]? = some x → h.v0 + j < h.v0 + h.size := by
        intro j x hx; have := (List.getElem?_eq_some_iff.1 hx).1; unfold Head.size; omega
      have vget : ∀ {j : Nat} {x}, h.slots[j]? = some x → ∃ y, vs[j]? = some y ∧ slotVal σ x = some y := by
        intro j x hx
        have hj : j < vs.length := by rw [hvl]; exact (List.getElem?_eq_some_iff.1 hx).1
        exact ⟨vs[j], List.getElem?_eq_getElem hj, hvg j x _ hx (List.getElem?_eq_getElem hj)⟩
      -- what a slot holds, at the head
      have slot : ∀ {j : Nat} {s : Slot} {ty : Ty} {T : Option OwnK} {c : SC} {u : Value}, h.slots[j]? = some (s, ty, T) → slotOf σ s = some c → RSC C w G c u → RSC C' w G' (slotNew (h.v0 + j) ty T) u ∧
          ∀ x, vs[j]? = some x → Has (slotTy ty T) (den C.ρ x.1) := by
        intro j s ty T c u hj hsc hr
        obtain ⟨y, hy, hyv⟩ := vget hj
        have hd := hden j y hy
        have hlt := hjlt hj
        unfold slotVal at hyv
        simp only [hsc] at hyv
        cases T with
        | none =>
          simp only at hyv
          split at hyv
          · rename_i e t hdat
            split at hyv
            · rename_i htt
              injection hyv with hyv; subst hyv; subst htt
              obtain ⟨q1, q2, q3⟩ := asData_ok hdat hr
              refine ⟨⟨by simp only [E.lt, decide_eq_true_eq]; exact hlt, by rw [hd]; exact q2, by rw [hd]; exact q3⟩, fun x hx => ?_⟩
              rw [hy] at hx; injection hx with hx; subst hx; exact q3
            · cases hyv
          · cases hyv
        | some T0 =>
          simp only at hyv
          have hpos : 0 < ty.cells.length := by
            have := List.all_eq_true.1 hsl _ (List.mem_of_getElem? hj)
            simp at this; exact this.2
          obtain ⟨T0, x0⟩ := T0
          split at hyv
          · rename_i t
            split at hyv
            · rename_i htt
              injection hyv with hyv; subst hyv
              have h0 : Has (.list ty) (.list []) := has_list.2 ⟨[], rfl, lenOk_zero _, by simp⟩
              have hu : u = .slice none 0 0 := hr
              refine ⟨?_, fun x hx => ?_⟩
              · cases x0 with
                | false =>
                  refine ⟨hlt, by simp only [E.lt, decide_eq_true_eq]; exact hlt, ?_, by rw [hd]; exact h0, by rw [hτn j _ hy]; exact hu⟩
                  rw [hd, hu]; exact .nil none 0
                | true => exact ⟨hlt, by rw [hτn j _ hy]; exact hu, _, _, _, hu⟩
              · rw [hy] at hx; injection hx with hx; subst hx; exact h0
            · cases hyv
          · rename_i g e0 t
            split at hyv
            · rename_i e T' t' hlive
              split at hyv
              · rename_i hcc
                obtain ⟨rfl, rfl, rfl, hx0, hge⟩ := hcc
                have hx0 : x0 = false := hx0
                subst hx0
                injection hyv with hyv; subst hyv
                have hown := hs.m.own _ _ _ _ hlive
                have hrep := hown.rep hpos hge
                obtain ⟨_, _, _, _, hu⟩ := hr
                refine ⟨⟨hlt, by simp only [E.lt, decide_eq_true_eq]; exact hlt, by rw [hd, hu]; exact hrep, by rw [hd]; exact hown.has, by rw [hτn j _ hy]; exact hu⟩, fun x hx => ?_⟩
                rw [hy] at hx; injection hx with hx; subst hx; exact hown.has
              · cases hyv
            · cases hyv
          · rename_i g t
            split at hyv
            · rename_i e T' t' hlive
              split at hyv
              · rename_i hcc
                obtain ⟨rfl, rfl, rfl, hx0, hge⟩ := hcc
                have hx0 : x0 = true := hx0
                subst hx0
                injection hyv with hyv; subst hyv
                have hown := hs.m.own _ _ _ _ hlive
                obtain ⟨_, hu, hsl'⟩ := hr
                refine ⟨⟨hlt, by rw [hτn j _ hy]; exact hu, hsl'⟩, fun x hx => ?_⟩
                rw [hy] at hx; injection hx with hx; subst hx; exact hown.has
              · cases hyv
            · cases hyv
          · cases hyv
      -- each slot is somewhere
      have slotHas : ∀ (j : Nat) x e, h.slots[j]? = some x → es[j]? = some e → Has (slotTy x.2.1 x.2.2) (den C.ρ e) := by
        rintro j ⟨s, ty, T⟩ e hj he
        obtain ⟨y, hy, hyv⟩ := vget hj
        have hye : y.1 = e := by have := hesg j y hy; rw [he] at this; injection this with this; exact this.symm
        have hsl' : ∃ c, slotOf σ s = some c := by
          unfold slotVal at hyv
          cases hq : slotOf σ s with
          | none => simp [hq] at hyv
          | some c => exact ⟨c, rfl⟩
        obtain ⟨c, hc⟩ := hsl'
        have hrsc : ∃ u, RSC C w G c u := by
          cases s with
          | tmp t =>
            simp only [slotOf] at hc
            split at hc
            · rename_i c' ht'
              injection hc with hc; subst hc
              obtain ⟨v, _, _, _, h4⟩ := hs.t t _ _ ht'
              simp only [condB, List.all_nil, if_true] at h4
              exact ⟨v, h4⟩
            · cases hc
          | cell id i =>
            simp only [slotOf] at hc
            split at hc
            · rename_i ro cs hid
              obtain ⟨_, _, ⟨vs', T', _, hr⟩, _⟩ := hs.m.box _ _ _ hid
              have hil : i < vs'.length := by rw [hr.1]; exact (List.getElem?_eq_some_iff.1 hc).1
              exact ⟨_, hr.2 i c _ hc (List.getElem?_eq_getElem hil)⟩
            · cases hc
        obtain ⟨u, hu⟩ := hrsc
        rw [← hye]
        exact (slot hj hc hu).2 y hy
      refine ⟨hesl, slotHas, G', ?_, ?_, hs.sz, hs.defers⟩
      · -- memory
        have hhp' : ∀ id ro cs, h.st.hp id = some (ro, cs) → id < h.v0 ∧ ∃ cs', σ.hp id = some (ro, cs') ∧ fitCells h id 0 cs cs' = true := by
          intro id ro cs hx
          have hid : id < h.v0 := by
            rcases Nat.lt_or_ge id h.v0 with h1 | h1
            · exact h1
            · rw [hok.hp id h1] at hx; cases hx
          have := List.all_eq_true.1 hhp id (List.mem_range.2 hid)
          simp only [hx] at this
          split at this
          · rename_i ro' cs' hid'
            simp only [Bool.and_eq_true, beq_iff_eq] at this
            exact ⟨hid, cs', by rw [hid', this.1], this.2⟩
          · cases this
        have hlive' : ∀ g x, h.st.live g = some x → (g.1 < h.v0 ∧ σ.live g = some x ∧ x.1.lt h.v0 = true ∧ (∀ (j : Nat) y, vs[j]? = some y → y.2 ≠ some g)) ∨
            (∃ j s ty T0 y, h.slots[j]? = some (s, ty, some T0) ∧ vs[j]? = some y ∧ g = slotTag (h.v0 + j) T0 ∧ x = (.var (h.v0 + j), T0.1, ty) ∧ (y.2 = none ∧ y.1 = .nil ∨ ∃ g', y.2 = some g' ∧ σ.live g' = some (y.1, T0.1, ty) ∧ g'.ex = T0.2)) := by
          intro g x hx
          rcases hok.live g x hx with hk | ⟨j, s, T, hj, T0, hT, hg, hxe⟩
          · have := List.all_eq_true.1 hlv g hk
            simp only [hx, Bool.and_eq_true, decide_eq_true_eq, Bool.not_eq_true'] at this
            refine .inl ⟨this.1.1.2, this.1.1.1, this.1.2, fun j y hy he => ?_⟩
            have hmem : some g ∈ vs.map (·.2) := List.mem_map.2 ⟨y, List.mem_of_getElem? hy, he⟩
            have h2 := this.2
            rw [List.contains_eq_mem] at h2
            simp [hmem] at h2
          · obtain ⟨ty, T⟩ := T
            simp only at hT hxe
            subst hT
            obtain ⟨y, hy, hyv⟩ := vget hj
            refine .inr ⟨j, s, ty, T0, y, hj, hy, hg, hxe, ?_⟩
            unfold slotVal at hyv
            simp only at hyv
            split at hyv
            · split at hyv
              · split at hyv
                · injection hyv with hyv; subst hyv; exact .inl ⟨rfl, rfl⟩
                · cases hyv
              · rename_i g0 e0 t _
                split at hyv
                · rename_i e T' t' hl
                  split at hyv
                  · rename_i hcc
                    obtain ⟨rfl, rfl, rfl, hx0, hge⟩ := hcc
                    injection hyv with hyv; subst hyv
                    exact .inr ⟨g0, rfl, hl, hge.trans hx0.symm⟩
                  · cases hyv
                · cases hyv
              · rename_i g0 t _
                split at hyv
                · rename_i e T' t' hl
                  split at hyv
                  · rename_i hcc
                    obtain ⟨rfl, rfl, rfl, hx0, hge⟩ := hcc
                    injection hyv with hyv; subst hyv
                    exact .inr ⟨g0, rfl, hl, hge.trans hx0.symm⟩
                  · cases hyv
                · cases hyv
              · cases hyv
            · cases hyv
        -- the block behind a tag of the head
        have blk : ∀ g x b, h.st.live g = some x → (G'.τ g).ownBlock = some b → ∃ g0 x0, σ.live g0 = some x0 ∧ (G.τ g0).ownBlock = some b ∧ ((g.1 < h.v0 ∧ g0 = g) ∨ ∃ j y s ty T0, h.slots[j]? = some (s, ty, some T0) ∧ vs[j]? = some y ∧ y.2 = some g0 ∧ g = slotTag (h.v0 + j) T0) := by
          intro g x b hx hb
          rcases hlive' g x hx with ⟨h1, h2, h3, _⟩ | ⟨j, s, ty, T0, y, hj, hy, hg, hxe, hcase⟩
          · rw [hτ g h1] at hb; exact ⟨g, x, h2, hb, .inl ⟨h1, rfl⟩⟩
          · rw [hg] at hb
            unfold slotTag at hb
            rw [hτn j y hy] at hb
            rcases hcase with ⟨hn, _⟩ | ⟨g', hg', hl, _⟩
            · rw [hn] at hb; cases hb
            · rw [hg'] at hb; exact ⟨g', _, hl, hb, .inr ⟨j, y, s, ty, T0, hj, hy, hg', hg⟩⟩
        refine ⟨hs.m.below, hs.m.foot0, hs.m.keep, ?_, hs.m.pinmu, hs.m.footlt, hs.m.footnew, ?_, ?_, ?_, ?_, ?_, ?_, ?_, fun hff g => ?_, hs.m.wz⟩
        rotate_right
        · show FrV (NewB w0 S0) w G.S (if h.v0 ≤ g.1 then (match vs[g.1 - h.v0]? with | some (_, some g') => G.τ g' | _ => .slice none 0 0) else G.τ g)
          split
          · split
            · exact hs.m.fresh hff _
            · intro a0 n0 cap0 hv0
              exact .inl rfl
          · exact hs.m.fresh hff g
        · intro i b hi
          exact ⟨Nat.lt_of_lt_of_le (hpin i b hi) (Nat.le_add_right _ _), (hs.m.pin i b hi).2⟩
        · intro id x hx
          obtain ⟨h1, _⟩ := hhp' id x.1 x.2 hx
          exact Nat.lt_of_lt_of_le h1 (Nat.le_add_right _ _)
        · intro id ro cs hx
          obtain ⟨h1, cs', h2, h3⟩ := hhp' id ro cs hx
          obtain ⟨b1, b2, ⟨us, T, b3, b4⟩, b5⟩ := hs.m.box id ro cs' h2
          obtain ⟨k1, k2⟩ := fitCells_get h3
          have cellsOk : ∀ (i : Nat) c, cs[i]? = some c → c.scalar = true ∧ ∀ u, us[i]? = some u → RSC C' w G' c u := by
            intro i c hc
            have hil : i < cs'.length := by rw [← k1]; exact (List.getElem?_eq_some_iff.1 hc).1
            have hc' : cs'[i]? = some cs'[i] := List.getElem?_eq_getElem hil
            rcases k2 i c _ hc hc' with ⟨j, ty, T1, hsi, rfl⟩ | ⟨he, hlt, hids, hsc⟩
            · obtain ⟨_, hj⟩ := slotIdx_get hsi
              rw [Nat.sub_zero] at hj
              rw [Nat.zero_add] at hj
              have hsc := List.all_eq_true.1 hsl _ (List.mem_of_getElem? hj)
              simp only [Bool.and_eq_true] at hsc
              refine ⟨?_, fun u hu => (slot hj (by simp only [slotOf, h2]; exact hc') (b4.2 i _ u hc' hu)).1⟩
              cases T1 with
              | none => exact hsc.1
              | some T1 => obtain ⟨T1, _ | _⟩ := T1 <;> rfl
            · refine ⟨hsc, fun u hu => shrink ?_ hlt hids⟩
              have := b4.2 i _ u hc' hu
              rw [he] at this; exact this
          refine ⟨b1, ?_, ⟨us, T, b3, by rw [b4.1, k1], fun i c u hc hu => (cellsOk i c hc).2 u hu⟩, ?_⟩
          · rw [List.all_eq_true]
            intro c hc
            obtain ⟨i, hi⟩ := List.getElem?_of_mem hc
            exact (cellsOk i c hi).1
          · rw [k1]; exact b5
        · intro i j x y hi hj he
          obtain ⟨_, ci, h2, _⟩ := hhp' i x.1 x.2 hi
          obtain ⟨_, cj, h3, _⟩ := hhp' j y.1 y.2 hj
          exact hs.m.inj i j _ _ h2 h3 he
        · intro g e T t hx
          rcases hlive' g _ hx with ⟨h1, h2, h3, _⟩ | ⟨j, s, ty, T0, y, hj, hy, hg, hxe, hcase⟩
          · have ho := hs.m.own g e T t h2
            have hde : den C'.ρ e = den C.ρ e := den_agree hρ h3
            have hlt' : e.lt (h.v0 + h.size) = true := by
              have := (shrink (c := .dat e .bool) (u := .bool true)) 
              clear this
              revert h3
              clear hx h2 ho hde
              induction e with
              | var i => intro he; simp only [E.lt, decide_eq_true_eq] at he ⊢; omega
              | kint | kbool | kstr | nilp | nil => intro _; rfl
              | cons a b iha ihb => intro he; simp only [E.lt, Bool.and_eq_true] at he ⊢; exact ⟨iha he.1, ihb he.2⟩
              | un o e ih => intro he; exact ih he
              | bin o a b iha ihb => intro he; simp only [E.lt, Bool.and_eq_true] at he ⊢; exact ⟨iha he.1, ihb he.2⟩
              | ite c a b ihc iha ihb => intro he; simp only [E.lt, Bool.and_eq_true] at he ⊢; exact ⟨⟨ihc he.1.1, iha he.1.2⟩, ihb he.2⟩
            obtain ⟨xs, l, q1, q2, q3, q4⟩ := ho.own
            refine ⟨Nat.lt_of_lt_of_le h1 (Nat.le_add_right _ _), hlt', by rw [hde]; exact ho.has, xs, l, by rw [hde]; exact q1, ?_, ?_, q4⟩
            · rw [hτ g h1]; exact q2
            · rw [hτ g h1]; exact q3
          · simp only [Prod.mk.injEq] at hxe
            obtain ⟨rfl, rfl, rfl⟩ := hxe
            have hd := hden j y hy
            have hlt := hjlt hj
            subst hg
            have hτs : G'.τ (slotTag (h.v0 + j) T0) = (match y.2 with | some g' => G.τ g' | none => .slice none 0 0) := hτn j y hy _
            have hsx := slotTag_ex (h.v0 + j) T0
            rcases hcase with ⟨hn, hnil⟩ | ⟨g', hg', hl, hgx⟩
            · refine ⟨hlt, by simpa [E.lt] using hlt, by rw [hd, hnil]; exact has_list.2 ⟨[], rfl, lenOk_zero _, by simp⟩, [], [], by rw [hd, hnil]; rfl, ?_, ?_, by simp⟩
              · rw [hτs, hn]; exact World.ownsRow_nil w _ _ _
              · rw [hτs, hn]; intro b hb; cases hb
            · have ho := hs.m.own _ _ _ _ hl
              obtain ⟨xs, l, q1, q2, q3, q4⟩ := ho.own
              refine ⟨hlt, by simpa [E.lt] using hlt, by rw [hd]; exact ho.has, xs, l, by rw [hd]; exact q1, ?_, ?_, q4⟩
              · rw [hτs, hg']; exact q2
              · rw [hτs, hg', hsx, ← hgx]; exact q3
        · intro g x b hx hb
          obtain ⟨g0, x0, h1, h2, _⟩ := blk g x b hx hb
          exact hs.m.ownnew g0 x0 b h1 h2
        · intro g g' x y b hx hy hb hb'
          obtain ⟨g0, x0, l0, b0, c0⟩ := blk g x b hx hb
          obtain ⟨g1, x1, l1, b1, c1⟩ := blk g' y b hy hb'
          have he := hs.m.ownne g0 g1 x0 x1 b l0 l1 b0 b1
          subst he
          rcases c0 with ⟨h1, rfl⟩ | ⟨j, z, s, ty, T0, hj, hz, hz2, hg⟩ <;> rcases c1 with ⟨h2, h3⟩ | ⟨j', z', s', ty', T0', hj', hz', hz2', hg'⟩
          · exact h3
          · rcases hlive' g0 x hx with ⟨_, _, _, hno⟩ | ⟨j0, _, _, _, _, _, _, hg0, _, _⟩
            · exact absurd hz2' (hno j' z' hz')
            · rw [hg0] at h1; simp [slotTag] at h1; omega
          · subst h3
            rcases hlive' g0 y hy with ⟨_, _, _, hno⟩ | ⟨j0, _, _, _, _, _, _, hg0, _, _⟩
            · exact absurd hz2 (hno j z hz)
            · rw [hg0] at h2; simp [slotTag] at h2; omega
          · have := nodupTags_ne hnd j j' g0 (by rw [List.getElem?_map, hz]; simp [hz2]) (by rw [List.getElem?_map, hz']; simp [hz2'])
            subst this
            rw [hj] at hj'; injection hj' with hj'; simp only [Prod.mk.injEq, Option.some.injEq] at hj'
            rw [hg, hg', hj'.2.2]
        · intro g id x y b hx hy hb
          obtain ⟨g0, x0, l0, b0, _⟩ := blk g x b hx hb
          obtain ⟨_, ci, h2, _⟩ := hhp' id y.1 y.2 hy
          exact hs.m.ownbox g0 id x0 _ b l0 h2 b0
      · -- the temporaries
        intro t c s hts
        have htn : t < n := by
          rcases Nat.lt_or_ge t n with h1 | h1
          · exact h1
          · rw [hok.tm t h1] at hts; cases hts
        have := List.all_eq_true.1 htm t (List.mem_range.2 htn)
        simp only [hts] at this
        split at this
        · rename_i j ty T hsi
          simp only [decide_eq_true_eq] at this
          obtain ⟨rfl, rfl⟩ := this
          obtain ⟨_, hj⟩ := slotIdx_get hsi
          rw [Nat.sub_zero] at hj
          obtain ⟨y, hy, hyv⟩ := vget hj
          have hc : ∃ c, σ.tm t = some ([], .one c) ∧ slotOf σ (.tmp t) = some c := by
            unfold slotVal at hyv
            cases hq : slotOf σ (.tmp t) with
            | none => simp [hq] at hyv
            | some c =>
              refine ⟨c, ?_, rfl⟩
              simp only [slotOf] at hq
              split at hq
              · rename_i c' h'; injection hq with hq; subst hq; exact h'
              · cases hq
          obtain ⟨c, hc1, hc2⟩ := hc
          obtain ⟨v, h1, _, _, h4⟩ := hs.t t _ _ hc1
          simp only [condB, List.all_nil, if_true] at h4
          have hr := (slot hj hc2 h4).1
          refine ⟨v, h1, by simp, ?_, by simp only [condB, List.all_nil, if_true]; exact hr⟩
          cases T with
          | none => exact hr.1
          | some T0 =>
            obtain ⟨T0, _ | _⟩ := T0
            · exact hr.2.1
            · rfl
        · simp only [Bool.and_eq_true, decide_eq_true_eq] at this
          obtain ⟨⟨⟨h1, h2⟩, h3⟩, h4⟩ := this
          obtain ⟨v, q1, q2, q3, q4⟩ := hs.t t c s h1
          have hc0 : ∀ x ∈ c, x.1.lt h.v0 = true := List.all_eq_true.1 h4
          have up : ∀ {e : E}, e.lt h.v0 = true → e.lt (h.v0 + h.size) = true := by
            intro e
            induction e with
            | var i => intro he; simp only [E.lt, decide_eq_true_eq] at he ⊢; omega
            | kint | kbool | kstr | nilp | nil => intro _; rfl
            | cons a b iha ihb => intro he; simp only [E.lt, Bool.and_eq_true] at he ⊢; exact ⟨iha he.1, ihb he.2⟩
            | un o e ih => intro he; exact ih he
            | bin o a b iha ihb => intro he; simp only [E.lt, Bool.and_eq_true] at he ⊢; exact ⟨iha he.1, ihb he.2⟩
            | ite c a b ihc iha ihb => intro he; simp only [E.lt, Bool.and_eq_true] at he ⊢; exact ⟨⟨ihc he.1.1, iha he.1.2⟩, ihb he.2⟩
          have upC : ∀ {c : SC}, c.lt h.v0 = true → c.lt (h.v0 + h.size) = true := by
            intro c hc; cases c <;> simp only [SC.lt, Bool.and_eq_true] at hc ⊢ <;> first | exact up hc | exact ⟨up hc.1, up hc.2⟩
          have hcond : condB C'.ρ c = condB C.ρ c := by
            unfold condB
            rw [Bool.eq_iff_iff, List.all_eq_true, List.all_eq_true]
            constructor
            · intro H x hx; rw [← den_agree hρ (hc0 x hx)]; exact H x hx
            · intro H x hx; rw [den_agree hρ (hc0 x hx)]; exact H x hx
          refine ⟨v, q1, fun x hx => up (hc0 x hx), ?_, ?_⟩
          · cases s with
            | one c => exact upC h2
            | agg l => simp only [SV.lt, List.all_eq_true] at h2 ⊢; exact fun c hc => upC (h2 c hc)
            | tup l => simp only [SV.lt, List.all_eq_true] at h2 ⊢; exact fun x hx c hc => upC (h2 x hx c hc)
          · show if condB C'.ρ c = true then _ else _
            rw [hcond]
            split
            · rename_i hcc; rw [if_pos hcc] at q4
              exact SV.cases_shrink q4 h2 h3 shrink
            · rename_i hcc; rw [if_neg hcc] at q4; exact q4
    · cases hfit
  · cases hfit

end
end Go.Eng
