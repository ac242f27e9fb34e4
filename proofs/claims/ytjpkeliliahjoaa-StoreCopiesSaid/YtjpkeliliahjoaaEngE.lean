/-
  The operations that leave memory alone: what they give, symbolically; and that it is so.
-/
import Derived.Test.YtjpkeliliahjoaaEngD
namespace Go.Eng
open Go Go.RowKit

abbrev RCell := Ty × Option (Nat × TypeId)
/-- Objects that a call is handed by pointer, and may change: which arguments (true) are pointers to them, in their order; what their cells hold ahead of the call, and behind it; 'fresh': it gives a pointer to a new object, the last of 'outs'. -/
structure Ob where
  shape : List Bool
  objs : List (List RCell)
  outs : List (List RCell)
  fresh : Bool
/-- No objects at all: a function that writes over a slice of integers that it is handed (marked so by two lists behind, none ahead). -/
def Ob.isPl (ob : Ob) : Bool := ob.shape.isEmpty && ob.objs.isEmpty && (ob.outs.length == 2)
structure Sig where
  params : List Ty
  res : List (Bool × List RCell)
  ob : Option Ob

/-- The contracts at hand; which temporaries are to be made as slices of their own kind: '.xo', written element by element; 1: what is made is to lean on new blocks alone; 2: all that readings lean on may be written. -/
structure Tbl where
  l : List (Nat × Sig)
  ex : List Nat
  fr : Nat

inductive Item where
  | asm (pc : Cond) (b : Bool)
  | obl (pc : Cond) (e : E)
  | call (p f : Nat) (args : E) (pc : Cond)
  | room (pc : Cond) (e : E) (bytes : Nat)

/-- The types of a type's cells. -/
def flat (P : Program) : Nat → TypeId → Option (List Ty)
  | 0, _ => none
  | n + 1, t =>
    match P.underlying t with
    | some (.int k) => some [.int k]
    | some .bool => some [.bool]
    | some .string => some [.str]
    | some (.slice e) =>
      match P.underlying e, flat P n e with
      | some (.struct _), some l => some [.list (.agg (.ofL l))]
      | _, some [x] => some [.list x]
      | _, _ => none
    | some (.pointer e) => (flat P n e).map fun l => [.ptr (.ofL l)]
    | some (.struct fs) => fs.toList.foldr (fun f acc => match flat P n f.type, acc with | some a, some b => some (a ++ b) | _, _ => none) (some [])
    | _ => none

def fuelT : Nat := 8
def fuelF : Nat := 12
def tyV (P : Program) (t : TypeId) : Option Ty :=
  match P.underlying t, flat P fuelF t with
  | some (.struct _), some l => some (.agg (.ofL l))
  | some _, some [x] => some x
  | _, _ => none

def constT : Ty → Value → Option SC
  | .int k, .int k' n => if k' = k ∧ inK k n then some (.dat (.kint k n) (.int k)) else none
  | .bool, .bool b => some (.dat (.kbool b) .bool)
  | .str, .string s => some (.dat (.kstr s) .str)
  | .list t, .slice none 0 0 => some (.nils t)
  | .ptr fs, .pointer none => some (.dat .nilp (.ptr fs))
  | _, _ => none

def opnd (P : Program) (σ : St) (hint : TypeId) : Operand → Option (Cond × SV)
  | .tmp t => σ.tm t
  | .const (.int k n) => (constT (.int k) (.int k n)).map fun c => ([], .one c)
  | .const v => match tyV P hint with
    | some t => (constT t v).map fun c => ([], .one c)
    | none => none
  | .func f => some ([], .one (.dat (.un (.fnc f) .nil) (.fn f .nil)))
  | .global _ => none

def implied (c pc : Cond) : Bool := c.all pc.contains

def getV (P : Program) (σ : St) (pc : Cond) (x : Operand) (hint : TypeId) : Option SV :=
  match opnd P σ hint x with
  | some (c, s) => if implied c pc then some s else none
  | none => none

def asData : SC → Option (E × Ty)
  | .dat e t => some (e, t)
  | .nils t => some (.nil, .list t)
  | .own _ e t => some (e, .list t)
  | .clip e t => some (e, .list t)
  | _ => none
def asDatas : List SC → Option (List E × List Ty)
  | [] => some ([], [])
  | c :: r => match asData c, asDatas r with
    | some (e, t), some (es, ts) => some (e :: es, t :: ts)
    | _, _ => none
def asDataV : SV → Option (E × Ty)
  | .one c => asData c
  | .agg l => match asDatas l with
    | some (es, ts) => some (.un .agg (.ofL es), .agg (.ofL ts))
    | none => none
  | .tup _ => none
def getD_ (P : Program) (σ : St) (pc : Cond) (x : Operand) (hint : TypeId) : Option (E × Ty) := (getV P σ pc x hint).bind asDataV

def idxCells (e : E) : Nat → List Ty → List SC
  | _, [] => []
  | j, t :: r => .dat (.un (.cell j) e) t :: idxCells e (j + 1) r
def asCells : SV → Option (List SC)
  | .one (.dat e (.agg fs)) => some (idxCells e 0 fs.toL)
  | .one c => some [c]
  | .agg l => some l
  | .tup _ => none

def aggT (P : Program) (t : TypeId) : Bool := match P.underlying t with | some (.struct _) => true | some (.array ..) => true | _ => false
def sizeT (P : Program) (t : TypeId) : Option Nat := (P.info? t).map (·.size)

def mkAnd : E → E → E
  | .kbool true, b => b
  | a, b => .bin .and a b
def mkPick (t : Ty) (c a b : E) : E :=
  match t, a, b with
  | .bool, a, .kbool false => .bin .and c a
  | .bool, .kbool true, b => .bin .or c b
  | _, a, b => .ite c a b

section
variable {P : Program} {C : Cx} {w : World} {G : Gh} {σ : St} {a : Act}

theorem constT_ok {t : Ty} {v : Value} {c : SC} (h : constT t v = some c) : RSC C w G c v ∧ c.scalar = true := by
  unfold constT at h
  split at h
  · split at h
    · rename_i hk
      injection h with h; subst h
      obtain ⟨rfl, hi⟩ := hk
      exact ⟨⟨rfl, .int _ _, has_int.2 ⟨_, rfl, hi⟩⟩, rfl⟩
    · cases h
  · injection h with h; subst h; exact ⟨⟨rfl, .bool _, has_bool.2 ⟨_, rfl⟩⟩, rfl⟩
  · injection h with h; subst h; exact ⟨⟨rfl, .str _, has_str.2 ⟨_, rfl⟩⟩, rfl⟩
  · injection h with h; subst h; exact ⟨rfl, rfl⟩
  · injection h with h; subst h; exact ⟨⟨rfl, .nilp, has_ptr.2 (.inl rfl)⟩, rfl⟩
  · cases h

theorem condB_implied {ρ : Nat → D} {c pc : Cond} (h : implied c pc = true) (hpc : condB ρ pc = true) : condB ρ c = true := by
  unfold condB implied at *
  rw [List.all_eq_true] at *
  intro x hx
  exact hpc x (by simpa using h x hx)

theorem opnd_ok (ht : SimT C w G σ.tm a) {hint : TypeId} {x : Operand} {c : Cond} {s : SV} (h : opnd P σ hint x = some (c, s)) (hc : condB C.ρ c = true) : RSV C w G s (a.eval x) := by
  cases x with
  | tmp t =>
    obtain ⟨v, h1, _, _, h2⟩ := ht t c s h
    rw [if_pos hc] at h2
    simpa [Act.eval, h1] using h2
  | const v =>
    have key : ∀ (t : Ty), (constT t v).map (fun c => (([] : Cond), SV.one c)) = some (c, s) → RSV C w G s v := by
      intro t h
      simp only [Option.map_eq_some_iff, Prod.mk.injEq] at h
      obtain ⟨c', h1, _, rfl⟩ := h
      exact (constT_ok h1).1
    cases v <;> simp only [opnd] at h <;> first
      | exact key _ h
      | (split at h
         · exact key _ h
         · cases h)
  | func f =>
    simp only [opnd, Option.some.injEq, Prod.mk.injEq] at h
    obtain ⟨_, rfl⟩ := h
    refine ⟨rfl, ?_, has_fn.2 ⟨[], rfl, has_nil.2 rfl⟩⟩
    exact Rep.fn f [] [] rfl (by intro i v d hi; simp at hi)
  | global g => cases h

theorem getV_ok (ht : SimT C w G σ.tm a) {pc : Cond} (hpc : condB C.ρ pc = true) {hint : TypeId} {x : Operand} {s : SV} (h : getV P σ pc x hint = some s) : RSV C w G s (a.eval x) := by
  unfold getV at h
  split at h
  · rename_i c s' ho
    split at h
    · rename_i hi
      injection h with h; subst h
      exact opnd_ok ht ho (condB_implied hi hpc)
    · cases h
  · cases h

theorem constT_lt {t : Ty} {v : Value} {c : SC} {n : Nat} (h : constT t v = some c) : c.lt n = true := by
  unfold constT at h
  split at h
  · split at h
    · injection h with h; subst h; rfl
    · cases h
  all_goals first | (injection h with h; subst h; rfl) | cases h

theorem getV_lt (ht : SimT C w G σ.tm a) {pc : Cond} {hint : TypeId} {x : Operand} {s : SV} (h : getV P σ pc x hint = some s) : s.lt C.N = true := by
  unfold getV at h
  split at h
  · rename_i c s' ho
    split at h
    · injection h with h; subst h
      cases x with
      | tmp t => exact (ht t c s' ho).choose_spec.2.2.1
      | const v =>
        have key : ∀ (t : Ty), (constT t v).map (fun c => (([] : Cond), SV.one c)) = some (c, s') → s'.lt C.N = true := by
          intro t h
          simp only [Option.map_eq_some_iff, Prod.mk.injEq] at h
          obtain ⟨c', h1, _, rfl⟩ := h
          exact constT_lt h1
        cases v <;> simp only [opnd] at ho <;> first
          | exact key _ ho
          | (split at ho
             · exact key _ ho
             · cases ho)
      | func f =>
        simp only [opnd, Option.some.injEq, Prod.mk.injEq] at ho
        obtain ⟨_, rfl⟩ := ho
        rfl
      | global g => cases ho
    · cases h
  · cases h

theorem asData_lt {c : SC} {e : E} {t : Ty} {n : Nat} (h : asData c = some (e, t)) (hc : c.lt n = true) : e.lt n = true := by
  cases c <;> simp only [asData] at h
  all_goals first | cases h; done | (injection h with h; simp only [Prod.mk.injEq] at h; obtain ⟨rfl, rfl⟩ := h; first | rfl | exact hc)
theorem asDatas_lt {n : Nat} : ∀ {l : List SC} {es : List E} {ts : List Ty}, asDatas l = some (es, ts) → l.all (SC.lt n) = true → (E.ofL es).lt n = true
  | [], es, ts, h, _ => by
    simp only [asDatas, Option.some.injEq, Prod.mk.injEq] at h
    obtain ⟨rfl, rfl⟩ := h; rfl
  | c :: l, es, ts, h, hl => by
    simp only [asDatas] at h
    simp only [List.all_cons, Bool.and_eq_true] at hl
    split at h
    · rename_i e t es' ts' h1 h2
      injection h with h; simp only [Prod.mk.injEq] at h; obtain ⟨rfl, rfl⟩ := h
      simp [E.ofL, E.lt, asData_lt h1 hl.1, asDatas_lt h2 hl.2]
    · cases h
theorem getD_lt (ht : SimT C w G σ.tm a) {pc : Cond} {hint : TypeId} {x : Operand} {e : E} {t : Ty} (h : getD_ P σ pc x hint = some (e, t)) : e.lt C.N = true := by
  unfold getD_ at h
  cases hs : getV P σ pc x hint with
  | none => simp [hs] at h
  | some s =>
    simp only [hs, Option.bind_some] at h
    have h0 := getV_lt ht hs
    cases s with
    | one c => exact asData_lt h h0
    | agg l =>
      simp only [asDataV] at h
      split at h
      · rename_i es ts h1
        injection h with h; simp only [Prod.mk.injEq] at h; obtain ⟨rfl, rfl⟩ := h
        exact asDatas_lt h1 h0
      · cases h
    | tup l => cases h

theorem asData_ok {c : SC} {e : E} {t : Ty} {v : Value} (h : asData c = some (e, t)) (hr : RSC C w G c v) : e.lt C.N = true ∧ Rep w G.S v (den C.ρ e) ∧ Has t (den C.ρ e) := by
  cases c <;> simp only [asData] at h
  · injection h with h; simp only [Prod.mk.injEq] at h; obtain ⟨rfl, rfl⟩ := h; exact hr
  · injection h with h; simp only [Prod.mk.injEq] at h; obtain ⟨rfl, rfl⟩ := h
    simp only [RSC] at hr; subst hr
    exact ⟨rfl, .nil none 0, has_list.2 ⟨[], rfl, lenOk_zero _, by simp⟩⟩
  · injection h with h; simp only [Prod.mk.injEq] at h; obtain ⟨rfl, rfl⟩ := h; exact ⟨hr.2.1, hr.2.2.1, hr.2.2.2.1⟩
  · injection h with h; simp only [Prod.mk.injEq] at h; obtain ⟨rfl, rfl⟩ := h; exact ⟨hr.1, hr.2.1, hr.2.2.1⟩
  all_goals cases h

theorem asDatas_ok : ∀ {l : List SC} {es : List E} {ts : List Ty} {vs : List Value}, asDatas l = some (es, ts) → RSCs C w G l vs →
    (E.ofL es).lt C.N = true ∧ es.length = vs.length ∧ ts.length = vs.length ∧ (∀ (i : Nat) v e, vs[i]? = some v → es[i]? = some e → Rep w G.S v (den C.ρ e)) ∧ HasL (.ofL ts) (es.map (den C.ρ))
  | [], es, ts, vs, h, hr => by
    simp only [asDatas, Option.some.injEq, Prod.mk.injEq] at h
    obtain ⟨rfl, rfl⟩ := h
    have hv : vs = [] := List.eq_nil_of_length_eq_zero hr.1
    subst hv
    exact ⟨rfl, rfl, rfl, by intro i v e hi; simp at hi, has_nil.2 rfl⟩
  | c :: l, es, ts, vs, h, hr => by
    simp only [asDatas] at h
    split at h
    · rename_i e t es' ts' h1 h2
      injection h with h; simp only [Prod.mk.injEq] at h; obtain ⟨rfl, rfl⟩ := h
      cases vs with
      | nil => have := hr.1; simp at this
      | cons v vs =>
        have hr' : RSCs C w G l vs := ⟨by simpa using hr.1, fun i c v hi hv => hr.2 (i + 1) c v (by simpa using hi) (by simpa using hv)⟩
        obtain ⟨k1, k2, k3, k4, k5⟩ := asDatas_ok h2 hr'
        obtain ⟨m1, m2, m3⟩ := asData_ok h1 (hr.2 0 c v rfl rfl)
        refine ⟨by simp [E.ofL, E.lt, m1, k1], by simp [k2], by simp [k3], ?_, has_cons.2 ⟨_, _, rfl, m3, k5⟩⟩
        intro i u e' hi he
        cases i with
        | zero => simp at hi he; subst hi; subst he; exact m2
        | succ i => exact k4 i u e' (by simpa using hi) (by simpa using he)
    · cases h

theorem asDataV_ok {s : SV} {e : E} {t : Ty} {v : Value} (h : asDataV s = some (e, t)) (hr : RSV C w G s v) : e.lt C.N = true ∧ Rep w G.S v (den C.ρ e) ∧ Has t (den C.ρ e) := by
  cases s with
  | one c => exact asData_ok h hr
  | agg l =>
    simp only [asDataV] at h
    split at h
    · rename_i es ts h1
      injection h with h; simp only [Prod.mk.injEq] at h; obtain ⟨rfl, rfl⟩ := h
      obtain ⟨vs, rfl, hs⟩ := hr
      obtain ⟨k1, k2, k3, k4, k5⟩ := asDatas_ok h1 hs
      refine ⟨by simpa [E.lt] using k1, ?_, ?_⟩
      · simp only [den, den_ofL, U.den, D.toL]
        refine .agg vs _ (by simp [k2]) fun i v d hi hd => ?_
        simp only [List.getElem?_map, Option.map_eq_some_iff] at hd
        obtain ⟨e, he, rfl⟩ := hd
        exact k4 i v e hi he
      · simp only [den, den_ofL, U.den, D.toL]
        exact has_agg.2 ⟨_, rfl, k5⟩
    · cases h
  | tup l => cases h

theorem getD_ok (ht : SimT C w G σ.tm a) {pc : Cond} (hpc : condB C.ρ pc = true) {hint : TypeId} {x : Operand} {e : E} {t : Ty} (h : getD_ P σ pc x hint = some (e, t)) :
    e.lt C.N = true ∧ Rep w G.S (a.eval x) (den C.ρ e) ∧ Has t (den C.ρ e) := by
  unfold getD_ at h
  cases hs : getV P σ pc x hint with
  | none => simp [hs] at h
  | some s => simp only [hs, Option.bind_some] at h; exact asDataV_ok h (getV_ok ht hpc hs)

theorem idxCells_get (e : E) : ∀ (ts : List Ty) (j i : Nat), (idxCells e j ts)[i]? = (ts[i]?).map fun t => SC.dat (.un (.cell (j + i)) e) t
  | [], j, i => by simp [idxCells]
  | t :: ts, j, 0 => by simp [idxCells]
  | t :: ts, j, i + 1 => by simp only [idxCells, List.getElem?_cons_succ, idxCells_get e ts (j + 1) i]; congr 2; funext t; congr 3; omega
theorem idxCells_len (e : E) : ∀ (ts : List Ty) (j : Nat), (idxCells e j ts).length = ts.length
  | [], _ => rfl
  | _ :: ts, j => by simp [idxCells, idxCells_len e ts]

theorem toL_getD {l : List D} {i : Nat} {d : D} (h : l[i]? = some d) : l.getD i .top = d := by simp [List.getD, h]

theorem asCells_ok {s : SV} {l : List SC} {v : Value} (h : asCells s = some l) (hr : RSV C w G s v) (hsc : l.all SC.scalar = true) : ∃ vs : List Value, v.cells = vs.toArray ∧ RSCs C w G l vs := by
  cases s with
  | one c =>
    by_cases hc : ∃ e fs, c = .dat e (.agg fs)
    · obtain ⟨e, fs, rfl⟩ := hc
      simp only [asCells, Option.some.injEq] at h
      subst h
      obtain ⟨h1, h2, h3⟩ := hr
      obtain ⟨l, hl, hh, cs, rfl, hlen, hc⟩ := h2.aggOf h3
      refine ⟨cs, rfl, by rw [idxCells_len, hlen, hasL_len hh], fun i c v hi hv => ?_⟩
      rw [idxCells_get] at hi
      simp only [Option.map_eq_some_iff] at hi
      obtain ⟨t, ht, rfl⟩ := hi
      obtain ⟨x, hx, hhx⟩ := hasL_get hh i t ht
      have hd : den C.ρ (.un (.cell (0 + i)) e) = x := by simp only [den, U.den, hl, D.toL, Nat.zero_add]; exact toL_getD hx
      exact ⟨by simpa [E.lt] using h1, by rw [hd]; exact hc i v x hv hx, by rw [hd]; exact hhx⟩
    · have h' : l = [c] := by
        cases c with
        | dat e t => cases t <;> simp only [asCells, Option.some.injEq] at h <;> first | exact h.symm | exact absurd ⟨_, _, rfl⟩ hc
        | _ => simp only [asCells, Option.some.injEq] at h; exact h.symm
      subst h'
      simp only [List.all_cons, List.all_nil, Bool.and_true] at hsc
      have ho := RSC.oneCell hr hsc
      refine ⟨[v], by cases v <;> simp [Value.cells, Value.oneCell'] at ho ⊢, rfl, fun i c' u hi hu => ?_⟩
      cases i with
      | zero => simp at hi hu; subst hi; subst hu; exact hr
      | succ i => simp at hi
  | agg l' =>
    simp only [asCells, Option.some.injEq] at h; subst h
    obtain ⟨vs, rfl, hs⟩ := hr
    exact ⟨vs, rfl, hs⟩
  | tup l' => cases h

theorem mkPick_den (ρ : Nat → D) (t : Ty) (c x y : E) (hx : (den ρ c).toB = true → Has t (den ρ x)) (hy : (den ρ c).toB = false → Has t (den ρ y)) :
    den ρ (mkPick t c x y) = if (den ρ c).toB then den ρ x else den ρ y := by
  unfold mkPick
  split
  · simp only [den, B.den]
    cases hcb : (den ρ c).toB with
    | false => simp
    | true => obtain ⟨b, hb⟩ := has_bool.1 (hx hcb); simp [hb, D.toB]
  · simp only [den, B.den]
    cases hcb : (den ρ c).toB with
    | false => obtain ⟨b, hb⟩ := has_bool.1 (hy hcb); simp [hb, D.toB]
    | true => simp
  · rfl
theorem mkPick_lt {N : Nat} {t : Ty} {c x y : E} (hc : c.lt N = true) (hx : x.lt N = true) (hy : y.lt N = true) : (mkPick t c x y).lt N = true := by
  unfold mkPick
  split <;> simp_all [E.lt]
end
end Go.Eng
