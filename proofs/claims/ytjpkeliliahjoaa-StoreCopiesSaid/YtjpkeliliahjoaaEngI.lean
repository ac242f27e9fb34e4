/-
  Lengths, parts of slices, struct and slice literals.
-/
import Derived.Test.YtjpkeliliahjoaaEngH
import Derived.Great.BuildSlice
namespace Go.Eng
open Go Go.RowKit

def zeroSCs : List Ty → List Value → Option (List SC)
  | [], [] => some []
  | t :: ts, v :: vs => match constT t v, zeroSCs ts vs with
    | some c, some cs => some (c :: cs)
    | _, _ => none
  | _, _ => none

def fillSC (place : Nat → Option (Nat × Nat)) : List SC → List (Nat × List SC) → Option (List SC)
  | cells, [] => some cells
  | cells, (i, cs) :: rest =>
    match place i with
    | some (off, size) => if cs.length = size ∧ off + cs.length ≤ cells.length then fillSC place (cells.take off ++ cs ++ cells.drop (off + cs.length)) rest else none
    | none => none

def partsSC (P : Program) (σ : St) (pc : Cond) (hint : Nat → TypeId) : List (Nat × Operand) → Option (List (Nat × List SC))
  | [] => some []
  | (i, x) :: rest =>
    match (getV P σ pc x (hint i)).bind asCells, partsSC P σ pc hint rest with
    | some cs, some r => if cs.all SC.scalar then some ((i, cs) :: r) else none
    | _, _ => none

def opBuild (P : Program) (σ : St) (pc : Cond) (o : Oper) : Option Pl :=
  match o.op with
  | .build t parts =>
    match P.underlying t, P.info? t, flat P fuelF t with
    | some (.struct fs), some it, some ts =>
      match it.zero, fs.toList.mapM (fun f => (P.info? f.type).map fun i => (f.offset, i.size)), partsSC P σ pc (fun i => ((fs[i]?).map (·.type)).getD 0) parts.toList with
      | some z, some places, some ps =>
        match zeroSCs ts z.cells.toList with
        | some zs => (fillSC (places.toArray[·]?) zs ps).map fun cs => (.agg cs, [])
        | none => none
      | _, _, _ => none
    | _, _, _ => none
  | _ => none

/-- Elements out of their cells. -/
def elemsE (agg : Bool) (size : Nat) (es : List E) : Nat → List E
  | 0 => []
  | n + 1 => (if agg then .un .agg (.ofL (es.take size)) else es.headD .nil) :: elemsE agg size (es.drop size) n

/-- A slice literal: its elements, as one expression; their type; the element type's number. -/
def opLit (P : Program) (σ : St) (pc : Cond) (o : Oper) : Option (E × TypeId × Ty × Nat) :=
  match o.op with
  | .buildSlice t len parts =>
    match P.underlying t with
    | some (.slice el) =>
      match P.info? el, tyV P el, flat P fuelF el, partsSC P σ pc (fun _ => el) parts.toList with
      | some ie, some u, some ts, some ps =>
        match ie.zero.bind fun z => zeroSCs ts z.cells.toList with
        | some zs =>
          if zs.length = ie.size ∧ u.cells.length = ie.size ∧ 0 < ie.size ∧ len * ie.size ≤ 16777216 ∧ len * u.bytes ≤ 140737488355328 then
            match fillSC (fun i => some (i * ie.size, ie.size)) ((List.range (len * ie.size)).map fun j => zs.getD (j % zs.length) (.nils .nil)) ps with
            | some cs =>
              match asDatas cs with
              | some (es, us) =>
                if us = (List.replicate len u.cells).flatten ∧ (aggT P el = true ∨ u.scalar = true) then
                  match aggT P el, u with
                  | true, .agg fs => some (.ofL (elemsE true ie.size es len), el, .agg (.ofL fs.toL), len)
                  | false, u => if ie.size = 1 then some (.ofL (elemsE false 1 es len), el, u, len) else none
                  | _, _ => none
                else none
              | none => none
            | none => none
          else none
        | none => none
      | _, _, _, _ => none
    | _ => none
  | _ => none

section
variable {P : Program} {C : Cx} {w w0 : World} {S0 : Base} {G : Gh} {σ : St} {a : Act} {o : Oper} {pc : Cond} {s : SV} {is : List Item} {Φ : Nat → List D → D} {Pre : Nat → List D → Prop}

theorem opLen_ok (ht : SimT C w G σ.tm a) (hpc : condB C.ρ pc = true) (h : opLen P σ pc o = some (s, is)) : Gives P C w G a o s := by
  unfold opLen at h
  split at h
  · rename_i args argTypes ho
    split at h
    · rename_i x t hargs hat
      split at h
      · rename_i el e u hu hx
        injection h with h; simp only [Prod.mk.injEq] at h; obtain ⟨rfl, rfl⟩ := h
        obtain ⟨x1, x2, x3⟩ := getD_ok ht hpc hx
        obtain ⟨l, hl, ⟨hlm, _⟩, _⟩ := has_list.1 x3
        obtain ⟨ad, cap, hv⟩ := (hl ▸ x2).inv_list
        have hargs' : args = #[x] := by apply Array.ext'; simpa using hargs
        refine ⟨.int .i64 l.length, ?_, by simpa [E.lt] using x1, ?_, ?_⟩
        · unfold execOp; simp only [ho, resolve, invoke, builtin, hargs']
          simp [Builtin.len_, hat, hv, run_underlying hu, goInt]
        · simp only [den, U.den, hl, D.toL]; exact .int _ _
        · simp only [den, U.den, hl, D.toL]
          refine has_int.2 ⟨_, rfl, ?_, ?_⟩
          · show IntKind.i64.min ≤ _; simp [IntKind.min, IntKind.signed, IntKind.bits]; try omega
          · show _ ≤ IntKind.i64.max; simp [IntKind.max, IntKind.signed, IntKind.bits]; simp only [maxLen] at hlm; omega
      · cases h
    · cases h
  · rename_i args _ ho
    split at h
    · rename_i x y hargs
      split at h
      · rename_i ex k ey k' hx hy
        split at h
        · rename_i hk
          subst hk
          injection h with h; simp only [Prod.mk.injEq] at h; obtain ⟨rfl, rfl⟩ := h
          obtain ⟨x1, x2, x3⟩ := getD_ok ht hpc hx
          obtain ⟨y1, y2, y3⟩ := getD_ok ht hpc hy
          obtain ⟨i, hi, hi'⟩ := has_int.1 x3
          obtain ⟨j, hj, hj'⟩ := has_int.1 y3
          have e1 := (hi ▸ x2).inv_int
          have e2 := (hj ▸ y2).inv_int
          have hargs' : args = #[x, y] := by apply Array.ext'; simpa using hargs
          refine ⟨.int k (if j < i then j else i), ?_, by simp [E.lt, x1, y1], ?_, ?_⟩
          · unfold execOp; simp only [ho, resolve, invoke, builtin, hargs']
            simp [Builtin.min_, Builtin.min2, e1, e2]
          · simp only [den, B.den, hi, hj, D.toI]; exact .int _ _
          · simp only [den, B.den, hi, hj, D.toI]
            refine has_int.2 ⟨_, rfl, ?_⟩
            split <;> assumption
        · cases h
      · cases h
    · cases h
  · rename_i args _ ho
    split at h
    · rename_i x y hargs
      split at h
      · rename_i ex k ey k' hx hy
        split at h
        · rename_i hk
          subst hk
          injection h with h; simp only [Prod.mk.injEq] at h; obtain ⟨rfl, rfl⟩ := h
          obtain ⟨x1, x2, x3⟩ := getD_ok ht hpc hx
          obtain ⟨y1, y2, y3⟩ := getD_ok ht hpc hy
          obtain ⟨i, hi, hi'⟩ := has_int.1 x3
          obtain ⟨j, hj, hj'⟩ := has_int.1 y3
          have e1 := (hi ▸ x2).inv_int
          have e2 := (hj ▸ y2).inv_int
          have hargs' : args = #[x, y] := by apply Array.ext'; simpa using hargs
          refine ⟨.int k (if j > i then j else i), ?_, by simp [E.lt, x1, y1], ?_, ?_⟩
          · unfold execOp; simp only [ho, resolve, invoke, builtin, hargs']
            simp [Builtin.max_, Builtin.max2, e1, e2]
          · simp only [den, B.den, hi, hj, D.toI]; exact .int _ _
          · simp only [den, B.den, hi, hj, D.toI]
            refine has_int.2 ⟨_, rfl, ?_⟩
            split <;> assumption
        · cases h
      · cases h
    · cases h
  · cases h

theorem zeroSCs_ok : ∀ {ts : List Ty} {vs : List Value} {cs : List SC}, zeroSCs ts vs = some cs → RSCs C w G cs vs
  | [], [], cs, h => by simp only [zeroSCs, Option.some.injEq] at h; subst h; exact ⟨rfl, by intro i c v hi; simp at hi⟩
  | t :: ts, v :: vs, cs, h => by
    simp only [zeroSCs] at h
    split at h
    · rename_i c cs' h1 h2
      injection h with h; subst h
      have ih := zeroSCs_ok h2
      refine ⟨by simp [ih.1], fun i c' v' hi hv => ?_⟩
      cases i with
      | zero => simp at hi hv; subst hi; subst hv; exact (constT_ok h1).1
      | succ i => exact ih.2 i c' v' (by simpa using hi) (by simpa using hv)
    · cases h
  | [], _ :: _, _, h => by cases h
  | _ :: _, [], _, h => by cases h

theorem foldl_set (off : Nat) : ∀ (us : List Value) (k : Nat) (vs : List Value), off + k + us.length ≤ vs.length →
    (us.zipIdx k).foldl (fun (cs : Array Value) (x : Value × Nat) => cs.setIfInBounds (off + x.2) x.1) vs.toArray = (vs.take (off + k) ++ us ++ vs.drop (off + k + us.length)).toArray
  | [], k, vs, _ => by simp
  | u :: us, k, vs, h => by
    have ih := foldl_set off us (k + 1) (vs.set (off + k) u) (by simp at h ⊢; omega)
    simp only [List.zipIdx_cons, List.foldl_cons, List.setIfInBounds_toArray, ih]
    congr 1
    have := list_seg_step vs (off + k) u us (by simp at h; omega)
    rw [show off + (k + 1) = off + k + 1 by omega]
    simpa [Nat.add_assoc] using this

theorem RSCs.splice {l cs : List SC} {vs us : List Value} (h : RSCs C w G l vs) (h' : RSCs C w G cs us) {off : Nat} (hle : off + cs.length ≤ l.length) :
    RSCs C w G (l.take off ++ cs ++ l.drop (off + cs.length)) (vs.take off ++ us ++ vs.drop (off + us.length)) := by
  have hl := h.1
  have hl' := h'.1
  refine ⟨by simp [hl, hl'], fun i c v hc hv => ?_⟩
  rw [List.getElem?_append, List.getElem?_append] at hc hv
  simp only [List.length_append, List.length_take, hl, hl', Nat.min_eq_left (show off ≤ l.length by omega)] at hc hv
  by_cases h1 : i < off + cs.length
  · rw [if_pos h1] at hc hv
    by_cases h2 : i < off
    · rw [if_pos h2] at hc hv
      simp only [List.getElem?_take, if_pos h2] at hc hv
      exact h.2 i c v hc hv
    · rw [if_neg h2] at hc hv
      exact h'.2 _ c v hc hv
  · rw [if_neg h1] at hc hv
    simp only [List.getElem?_drop] at hc hv
    exact h.2 _ c v hc hv

theorem fillSC_ok (place : Nat → Option (Nat × Nat)) : ∀ (parts : List (Nat × List SC)) (vals : List (Nat × Value)) (cells cells' : List SC) (vs : List Value), fillSC place cells parts = some cells' → RSCs C w G cells vs →
    parts.length = vals.length → (∀ (i : Nat) x y, parts[i]? = some x → vals[i]? = some y → x.1 = y.1 ∧ ∃ us : List Value, y.2.cells = us.toArray ∧ RSCs C w G x.2 us) →
    ∃ vs' : List Value, Instr.fill place vs.toArray vals = some vs'.toArray ∧ RSCs C w G cells' vs'
  | [], [], cells, cells', vs, h, hr, _, _ => by
    simp only [fillSC, Option.some.injEq] at h; subst h
    exact ⟨vs, rfl, hr⟩
  | [], _ :: _, _, _, _, _, _, hl, _ => by simp at hl
  | _ :: _, [], _, _, _, _, _, hl, _ => by simp at hl
  | (i, cs) :: parts, (j, v) :: vals, cells, cells', vs, h, hr, hl, hp => by
    obtain ⟨hij, us, hv, hus⟩ := hp 0 _ _ rfl rfl
    simp only at hij hv hus
    subst hij
    simp only [fillSC] at h
    split at h
    · rename_i off size hpl
      split at h
      · rename_i hc
        obtain ⟨hc1, hc2⟩ := hc
        obtain ⟨vs', h1, h2⟩ := fillSC_ok place parts vals _ cells' _ h (hr.splice hus hc2) (by simpa using hl) (fun k x y hx hy => hp (k + 1) x y (by simpa using hx) (by simpa using hy))
        refine ⟨vs', ?_, h2⟩
        have hlen : us.length = cs.length := hus.1
        simp only [Instr.fill, hpl, hv]
        have hf := foldl_set off us 0 vs (by rw [hr.1, hlen]; omega)
        simp only [Nat.add_zero] at hf
        have hcond : ¬ ((us.toArray.size ≠ size || decide (off + us.toArray.size > vs.toArray.size)) = true) := by
          simp [hlen, hc1, hr.1]; omega
        rw [if_neg hcond]
        have h3 : us.toArray.zipIdx.foldl (fun cs (x : Value × Nat) => cs.setIfInBounds (off + x.2) x.1) vs.toArray = (vs.take off ++ us ++ vs.drop (off + us.length)).toArray := by
          rw [← hf, show us.toArray.zipIdx = (us.zipIdx).toArray by simp]
          exact List.foldl_toArray' _ _ _ (by simp)
        exact (congrArg (fun z => Instr.fill place z vals) h3).trans h1
      · cases h
    · cases h

theorem partsSC_ok (ht : SimT C w G σ.tm a) (hpc : condB C.ρ pc = true) (hint : Nat → TypeId) : ∀ (l : List (Nat × Operand)) (ps : List (Nat × List SC)), partsSC P σ pc hint l = some ps →
    ps.length = (l.map fun (x : Nat × Operand) => (x.1, a.eval x.2)).length ∧ ∀ (i : Nat) x y, ps[i]? = some x → (l.map fun (x : Nat × Operand) => (x.1, a.eval x.2))[i]? = some y → x.1 = y.1 ∧ ∃ us : List Value, y.2.cells = us.toArray ∧ RSCs C w G x.2 us
  | [], ps, h => by simp only [partsSC, Option.some.injEq] at h; subst h; exact ⟨rfl, by intro i x y hi; simp at hi⟩
  | (i, x) :: l, ps, h => by
    simp only [partsSC] at h
    split at h
    · rename_i cs r h1 h2
      split at h
      · rename_i hsc
        injection h with h; subst h
        obtain ⟨k1, k2⟩ := partsSC_ok ht hpc hint l r h2
        refine ⟨by simp [k1], fun j y z hy hz => ?_⟩
        cases j with
        | zero =>
          simp at hy hz; subst hy; subst hz
          refine ⟨rfl, ?_⟩
          cases hg : getV P σ pc x (hint i) with
          | none => simp [hg] at h1
          | some sv =>
            simp only [hg, Option.bind_some] at h1
            exact asCells_ok h1 (getV_ok ht hpc hg) hsc
        | succ j => exact k2 j y z (by simpa using hy) (by simpa using hz)
      · cases h
    · cases h

theorem opBuild_ok (ht : SimT C w G σ.tm a) (hpc : condB C.ρ pc = true) (h : opBuild P σ pc o = some (s, is)) : Gives P C w G a o s := by
  unfold opBuild at h
  split at h
  · rename_i t parts ho
    split at h
    · rename_i fs it ts hu hi hfl
      split at h
      · rename_i z places ps hz hpl hps
        split at h
        · rename_i zs hzs
          simp only [Option.map_eq_some_iff, Prod.mk.injEq] at h
          obtain ⟨cs, hcs, rfl, _⟩ := h
          obtain ⟨k1, k2⟩ := partsSC_ok ht hpc _ _ _ hps
          have hz0 := zeroSCs_ok (C := C) (w := w) (G := G) hzs
          obtain ⟨vs, h1, h2⟩ := fillSC_ok _ _ _ _ _ _ hcs hz0 k1 k2
          refine ⟨.agg vs.toArray, ?_, vs, rfl, h2⟩
          have hb : P.built t (parts.map fun (i, x) => (i, a.eval x)).toList = some vs.toArray := by
            unfold Program.built
            simp only [hi, hu, hz, hpl]
            rw [Array.toList_map]
            simpa using h1
          unfold execOp; simp only [ho, Sem.run_bind, run_build w t _ _ hb, Result.andThen_ok]
          rfl
        · cases h
      · cases h
    · cases h
  · cases h

theorem opSlice_ok (ht : SimT C w G σ.tm a) (hpc : condB C.ρ pc = true) (h : opSlice P σ pc o = some (s, is)) (hit : ∀ it ∈ is, ItemOk C Φ Pre it) : Gives P C w G a o s := by
  unfold opSlice at h
  split at h
  · rename_i t x lo hi ho
    split at h
    · rename_i el e u hu hx
      simp only at h
      split at h
      · rename_i l k hh k' hlo hhi
        split at h
        · rename_i hsz
          obtain ⟨hsz, hpos⟩ := hsz
          injection h with h; simp only [Prod.mk.injEq] at h; obtain ⟨rfl, rfl⟩ := h
          obtain ⟨x1, x2, x3⟩ := getD_ok ht hpc hx
          obtain ⟨ds, hl, hlm, hall⟩ := has_list.1 x3
          have hob : ItemOk C Φ Pre (.obl pc (.bin .and (.bin .le (.kint k 0) l) (.bin .and (.bin .le l hh) (.bin .le hh (.un .len e))))) := hit _ (by simp)
          have hb := hob.2 hpc
          -- the two bounds as numbers
          have kl : ∃ n : Int, den C.ρ l = .int k n ∧ l.lt C.N = true ∧ (∀ i, lo = some i → a.eval i = .int k n) ∧ (lo = none → n = 0) := by
            cases lo with
            | none => simp only [Option.some.injEq, Prod.mk.injEq] at hlo; obtain ⟨rfl, rfl⟩ := hlo; exact ⟨0, rfl, rfl, by simp, fun _ => rfl⟩
            | some i =>
              simp only at hlo
              split at hlo
              · rename_i ie ki hi'
                simp only [Option.some.injEq, Prod.mk.injEq] at hlo; obtain ⟨rfl, rfl⟩ := hlo
                obtain ⟨y1, y2, y3⟩ := getD_ok ht hpc hi'
                obtain ⟨n, hn, _⟩ := has_int.1 y3
                exact ⟨n, hn, y1, fun j hj => by injection hj with hj; subst hj; exact (hn ▸ y2).inv_int, by simp⟩
              · cases hlo
          have kh : ∃ n : Int, (∃ k, den C.ρ hh = .int k n) ∧ hh.lt C.N = true ∧ (∀ i, hi = some i → ∃ k, a.eval i = .int k n) ∧ (hi = none → n = ds.length) := by
            cases hi with
            | none => simp only [Option.some.injEq, Prod.mk.injEq] at hhi; obtain ⟨rfl, rfl⟩ := hhi; exact ⟨ds.length, ⟨.i64, by simp only [den, U.den, hl, D.toL]⟩, by simpa [E.lt] using x1, by simp, fun _ => rfl⟩
            | some i =>
              simp only at hhi
              split at hhi
              · rename_i ie ki hi'
                simp only [Option.some.injEq, Prod.mk.injEq] at hhi; obtain ⟨rfl, rfl⟩ := hhi
                obtain ⟨y1, y2, y3⟩ := getD_ok ht hpc hi'
                obtain ⟨n, hn, _⟩ := has_int.1 y3
                exact ⟨n, ⟨_, hn⟩, y1, fun j hj => by injection hj with hj; subst hj; exact ⟨_, (hn ▸ y2).inv_int⟩, by simp⟩
              · cases hhi
          obtain ⟨n, hn, nlt, hnv, hn0⟩ := kl
          obtain ⟨m, ⟨km, hm⟩, mlt, hmv, hm0⟩ := kh
          simp only [den, B.den, U.den, hl, hn, hm, D.toI, D.toB, D.toL, Bool.and_eq_true, decide_eq_true_eq] at hb
          obtain ⟨b1, b2, b3⟩ := hb
          have hden : den C.ρ (.bin .drop (.bin .take e hh) l) = .list ((ds.take m.toNat).drop n.toNat) := by simp only [den, B.den, hl, hn, hm, D.toI, D.toL]
          have hlen : ((ds.take m.toNat).drop n.toNat).length = m.toNat - n.toNat := by simp; omega
          have hsl : ∀ (ad : Option Addr) (cap : Nat), ds.length ≤ cap → (Instr.sliceAt t (.slice ad ds.length cap) (lo.map a.eval) (hi.map a.eval) none).run P w =
              .ok (.slice (if cap = n.toNat then ad else ad.map (·.add (n.toNat * u.cells.length))) (m.toNat - n.toNat) (cap - n.toNat)) w := by
            intro ad cap hcap
            have h1 := run_sizeT (P := P) (w := w) hsz
            have h2 : ∀ kk code, (Instr.sliceBound (.int kk m) cap code).run P w = .ok m.toNat w := fun kk code => run_sliceBound w kk m cap code (by omega) (by omega)
            have h3 : ∀ code, (Instr.sliceBound (.int k n) m.toNat code).run P w = .ok n.toNat w := fun code => run_sliceBound w k n m.toNat code (by omega) (by omega)
            have e1 : (do
                let m' ← match (none : Option Value) with
                  | some v => Instr.sliceBound v cap (if true then .slice3Acap else .slice3Alen)
                  | none => pure cap
                let h ← match hi.map a.eval, (none : Option Value) with
                  | some v, some _ => Instr.sliceBound v m' .slice3B
                  | some v, none => Instr.sliceBound v m' (if true then .sliceAcap else .sliceAlen)
                  | none, none => pure ds.length
                  | none, some _ => stuck "Slice: max without high"
                let l ← match lo.map a.eval with
                  | some v => Instr.sliceBound v h (if (none : Option Value).isSome then .slice3C else .sliceB)
                  | none => pure 0
                pure (l, h, m') : Sem (Nat × Nat × Nat)).run P w = .ok (n.toNat, m.toNat, cap) w := by
              cases hi with
              | none =>
                have := hm0 rfl
                have hmm : m.toNat = ds.length := by omega
                cases lo with
                | none => have := hn0 rfl; simp [this, hmm]
                | some i => rw [hmm] at h3; simp [hnv i rfl, h3, hmm]
              | some j =>
                obtain ⟨kk, hj⟩ := hmv j rfl
                cases lo with
                | none => have := hn0 rfl; simp [this, hj, h2]
                | some i => simp [hnv i rfl, h3, hj, h2]
            have e2 : (Instr.sliceBounds true ds.length cap (lo.map a.eval) (hi.map a.eval) none).run P w = .ok (n.toNat, m.toNat, cap) w := e1
            simp [Instr.sliceAt, Instr.slice, run_underlying hu, e2, h1]
          have fin : ∀ {ad : Option Addr} {cap : Nat}, a.eval x = .slice ad ds.length cap → ds.length ≤ cap → (∀ v, v = Value.slice (if cap = n.toNat then ad else ad.map (·.add (n.toNat * u.cells.length))) (m.toNat - n.toNat) (cap - n.toNat) → Rep w G.S v (.list ((ds.take m.toNat).drop n.toNat))) → Gives P C w G a o (.one (.dat (.bin .drop (.bin .take e hh) l) (.list u))) := by
            intro ad cap hv hcap hrep
            refine ⟨_, ?_, by simp [E.lt, x1, nlt, mlt], by rw [hden]; exact hrep _ rfl, ?_⟩
            · unfold execOp; simp only [ho, hv, Option.map_none, Sem.run_bind, hsl ad cap hcap, Result.andThen_ok]; rfl
            · rw [hden]
              exact has_list.2 ⟨_, rfl, hlm.mono (by omega), fun y hy => hall y (List.mem_of_mem_take (List.mem_of_mem_drop hy))⟩
          have hx2 := hl ▸ x2
          by_cases hz : m.toNat - n.toNat = 0
          · have hnil : (ds.take m.toNat).drop n.toNat = [] := List.eq_nil_of_length_eq_zero (by omega)
            have hle : ∃ ad cap, a.eval x = .slice ad ds.length cap ∧ ds.length ≤ cap := by
              generalize a.eval x = v at hx2
              cases hx2 with
              | nil ad cap => exact ⟨ad, cap, rfl, Nat.zero_le _⟩
              | list b off cap sz xs _ _ _ hcap => exact ⟨_, cap, rfl, hcap⟩
            obtain ⟨ad, cap, hv, hcap⟩ := hle
            refine fin hv hcap fun v hvv => ?_
            rw [hnil, hvv, hz]
            exact .nil _ _
          · generalize hvx : a.eval x = v at hx2
            cases hx2 with
            | nil ad cap => simp at b3; omega
            | list b off cap sz xs _ hsz' hne hcap hxl hS hc hw hr =>
              refine fin hvx hcap fun v' hvv => ?_
              have hszu : sz = u.cells.length := by
                cases hds : ds with
                | nil => exact absurd hds hne
                | cons d r =>
                  have := hw 0 d (by rw [hds]; rfl)
                  rw [← this]; exact (has_cells (hall d (by rw [hds]; simp))).1
              have hcapn : cap ≠ n.toNat := by omega
              rw [hvv, if_neg hcapn, ← hlen]
              simp only [Option.map_some, addr_add]
              have hmul : n.toNat * sz ≤ xs.length := by rw [hxl]; exact Nat.mul_le_mul_right _ (by omega)
              refine .list b _ _ sz ((xs.drop (n.toNat * sz)).take ((m.toNat - n.toNat) * sz)) _ hsz' (fun e => hz (by rw [← hlen, e]; rfl)) (by omega) ?_ ?_ ?_ ?_ ?_
              · rw [hlen, List.length_take, List.length_drop, hxl, ← Nat.sub_mul]
                exact Nat.min_eq_left (Nat.mul_le_mul_right _ (by omega))
              · intro i hi
                have : i < xs.length - n.toNat * sz := by simp at hi; omega
                rw [← hszu, Nat.add_assoc]; exact hS _ (by omega)
              · intro i v hi
                simp only [List.getElem?_take, List.getElem?_drop] at hi
                split at hi
                · rw [← hszu, Nat.add_assoc]; exact hc _ v hi
                · cases hi
              · intro i d hi
                exact hw _ d (by simp only [List.getElem?_drop, List.getElem?_take] at hi; split at hi; exact hi; cases hi)
              · intro i d j v c hi hj hv
                simp only [List.getElem?_drop, List.getElem?_take] at hi
                split at hi
                · refine hr (n.toNat + i) d j v c hi hj ?_
                  simp only [List.getElem?_take, List.getElem?_drop] at hv
                  split at hv
                  · rw [← hv, Nat.add_mul, Nat.add_assoc]
                  · cases hv
                · cases hi
        · cases h
      · cases h
    · cases h
  · cases h

theorem opSlice3_ok (ht : SimT C w G σ.tm a) (hpc : condB C.ρ pc = true) (h : opSlice3 P σ pc o = some (s, is)) (hit : ∀ it ∈ is, ItemOk C Φ Pre it) : Gives P C w G a o s := by
  unfold opSlice3 at h
  split at h
  · rename_i t x hi mx ho
    split at h
    · rename_i el e u hh k mm k' hu hx hhi hmx
      split at h
      · rename_i hsz
        obtain ⟨hsz, hpos, rfl⟩ := hsz
        injection h with h; simp only [Prod.mk.injEq] at h; obtain ⟨rfl, rfl⟩ := h
        obtain ⟨x1, x2, x3⟩ := getD_ok ht hpc hx
        obtain ⟨ds, hl, hlm, hall⟩ := has_list.1 x3
        obtain ⟨y1, y2, y3⟩ := getD_ok ht hpc hhi
        obtain ⟨_, z2, _⟩ := getD_ok ht hpc hmx
        obtain ⟨m, hm, _⟩ := has_int.1 y3
        have hob : ItemOk C Φ Pre (.obl pc (.bin .and (.bin .le (.kint k 0) hh) (.bin .le hh (.un .len e)))) := hit _ (by simp)
        have hb := hob.2 hpc
        simp only [den, B.den, U.den, hl, hm, D.toI, D.toB, D.toL, Bool.and_eq_true, decide_eq_true_eq] at hb
        obtain ⟨b1, b2⟩ := hb
        have hhv : a.eval hi = .int k m := (hm ▸ y2).inv_int
        have hmv : a.eval mx = .int k m := (hm ▸ z2).inv_int
        have hden : den C.ρ (.bin .take e hh) = .list (ds.take m.toNat) := by simp only [den, B.den, hl, hm, D.toI, D.toL]
        have hlen : (ds.take m.toNat).length = m.toNat := by simp; omega
        have hsl : ∀ (ad : Option Addr) (cap : Nat), ds.length ≤ cap → (Instr.sliceAt t (.slice ad ds.length cap) none (some (.int k m)) (some (.int k m))).run P w =
            .ok (.slice (if m.toNat = 0 then ad else ad.map (·.add (0 * u.cells.length))) m.toNat m.toNat) w := by
          intro ad cap hcap
          have h1 := run_sizeT (P := P) (w := w) hsz
          have h2 : ∀ code, (Instr.sliceBound (.int k m) cap code).run P w = .ok m.toNat w := fun code => run_sliceBound w k m cap code (by omega) (by omega)
          have h3 : ∀ code, (Instr.sliceBound (.int k m) m.toNat code).run P w = .ok m.toNat w := fun code => run_sliceBound w k m m.toNat code (by omega) (by omega)
          have e2 : (Instr.sliceBounds true ds.length cap none (some (.int k m)) (some (.int k m))).run P w = .ok (0, m.toNat, m.toNat) w := by
            simp [Instr.sliceBounds, h2, h3]
          simp [Instr.sliceAt, Instr.slice, run_underlying hu, e2, h1]
        have fin : ∀ {ad : Option Addr} {cap : Nat}, a.eval x = .slice ad ds.length cap → ds.length ≤ cap → (∀ v, v = Value.slice (if m.toNat = 0 then ad else ad.map (·.add (0 * u.cells.length))) m.toNat m.toNat → Rep w G.S v (.list (ds.take m.toNat))) → Gives P C w G a o (.one (.clip (.bin .take e hh) u)) := by
          intro ad cap hv hcap hrep
          refine ⟨_, ?_, by simp [E.lt, x1, y1], by rw [hden]; exact hrep _ rfl, ?_, ?_⟩
          · unfold execOp; simp only [ho, hv, hhv, hmv, Option.map_none, Option.map_some, Sem.run_bind, hsl ad cap hcap, Result.andThen_ok]; rfl
          · rw [hden]
            exact has_list.2 ⟨_, rfl, hlm.mono (by omega), fun y hy => hall y (List.mem_of_mem_take hy)⟩
          · rw [hden]; simp only [D.toL, hlen]; exact ⟨_, rfl⟩
        have hx2 := hl ▸ x2
        by_cases hz : m.toNat = 0
        · have hle : ∃ ad cap, a.eval x = .slice ad ds.length cap ∧ ds.length ≤ cap := by
            generalize a.eval x = v at hx2
            cases hx2 with
            | nil ad cap => exact ⟨ad, cap, rfl, Nat.zero_le _⟩
            | list b off cap sz xs _ _ _ hcap => exact ⟨_, cap, rfl, hcap⟩
          obtain ⟨ad, cap, hv, hcap⟩ := hle
          refine fin hv hcap fun v hvv => ?_
          rw [hvv, hz]
          exact .nil _ _
        · generalize hvx : a.eval x = v at hx2
          cases hx2 with
          | nil ad cap => simp at b2; omega
          | list b off cap sz xs _ hsz' hne hcap hxl hS hc hw hr =>
            refine fin hvx hcap fun v' hvv => ?_
            rw [hvv, if_neg hz]
            simp only [Option.map_some, addr_add, Nat.zero_mul, Nat.add_zero]
            have key := Rep.list (w := w) (S := G.S) b off m.toNat sz (xs.take (m.toNat * sz)) (ds.take m.toNat) hsz' (fun e => hz (by rw [← hlen, e]; rfl)) (by omega) (by
                rw [hlen, List.length_take, hxl]; exact Nat.min_eq_left (Nat.mul_le_mul_right _ (by omega)))
              (fun i hi => hS _ (by simp at hi; omega))
              (fun i v hi => by
                simp only [List.getElem?_take] at hi
                split at hi
                · exact hc _ v hi
                · cases hi)
              (fun i d hi => hw _ d (by simp only [List.getElem?_take] at hi; split at hi; exact hi; cases hi))
              (fun i d j v c hi hj hv => by
                simp only [List.getElem?_take] at hi hv
                split at hi
                · split at hv
                  · exact hr i d j v c hi hj hv
                  · cases hv
                · cases hi)
            rw [hlen] at key
            exact key
      · cases h
    · cases h
  · cases h

end
end Go.Eng
