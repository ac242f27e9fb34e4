/-
  What came in, read by the claim's own reader, reads as data of the engine's.
-/
import Derived.Test.YtjpkeliliahjoaaEngT
import Derived.ProofKit
import Derived.OpenShut
namespace Go.Eng
open Go Go.RowKit Go.ChangeShapes Go.WideShapes

def fieldTys (g : TypeId → Option (List Ty)) (cells : TypeId → Nat) : Nat → List Field → Option (List Ty)
  | _, [] => some []
  | o, f :: fs => if f.offset = o then
      match g f.type with
      | some ts => if cells f.type = ts.length then (fieldTys g cells (o + ts.length) fs).map (ts ++ ·) else none
      | none => none
    else none
def notAgg : Ty → Bool
  | .agg _ => false
  | _ => true
def elemTy (P : Program) (e : TypeId) (ts : List Ty) : Option Ty :=
  if aggT P e then some (.agg (.ofL ts)) else match ts with
    | [t] => if notAgg t then some t else none
    | _ => none
/-- An array's elements, as if they were fields. -/
def arrFields (cells : Nat) (e : TypeId) (k : Nat) : List Field := (List.range k).map fun i => { (default : Field) with type := e, offset := i * cells }
/-- The types of a type's cells. -/
def cellTys (P : Program) : Nat → TypeId → Option (List Ty)
  | 0, _ => none
  | n + 1, T => match P.underlying T with
    | some .bool => some [.bool]
    | some (.int k) => some [.int k]
    | some .string => some [.str]
    | some (.slice e) => match cellTys P n e with
      | some ts => if 0 < ts.length ∧ P.cellsOf e = ts.length then (elemTy P e ts).bind fun t => if P.bytesOf e = t.bytes then some [.list t] else none else none
      | none => none
    | some (.struct fs) => match fieldTys (cellTys P n) P.cellsOf 0 fs.toList with
      | some ts => if P.cellsOf T = ts.length then some ts else none
      | none => none
    | some (.array k e) => match fieldTys (cellTys P n) P.cellsOf 0 (arrFields (P.cellsOf e) e k) with
      | some ts => if P.cellsOf T = ts.length then some ts else none
      | none => none
    | _ => none
def argTy (P : Program) (n : Nat) (T : TypeId) : Option Ty := (cellTys P n T).bind (elemTy P T)

mutual
/-- How many elements the lists of a datum have, all told. -/
def D.wt : D → Nat
  | .list l => wtL l + l.length
  | .agg l => wtL l
  | _ => 0
def wtL : List D → Nat
  | [] => 0
  | d :: r => d.wt + wtL r
end
mutual
def dwt {H : Type} : DataW H → Nat
  | .slice e _ => dwtL e + e.length
  | .agg p => dwtL p
  | _ => 0
def dwtL {H : Type} : List (DataW H) → Nat
  | [] => 0
  | d :: r => dwt d + dwtL r
end
theorem wtL_append : ∀ {a b : List D}, wtL (a ++ b) = wtL a + wtL b
  | [], b => by simp [wtL]
  | x :: a, b => by simp only [List.cons_append, wtL, wtL_append (a := a)]; omega
theorem wtL_le {H : Type} : ∀ {ds : List D} {xs : List (DataW H)}, ds.length = xs.length → (∀ (i : Nat) d x, ds[i]? = some d → xs[i]? = some x → d.wt ≤ dwt x) → wtL ds ≤ dwtL xs
  | [], [], _, _ => Nat.le_refl _
  | [], _ :: _, h, _ => by simp at h
  | _ :: _, [], h, _ => by simp at h
  | d :: ds, x :: xs, h, h' => by
    simp only [wtL, dwtL]
    have h1 := h' 0 d x rfl rfl
    have h2 := wtL_le (ds := ds) (xs := xs) (by simpa using h) (fun i d x a b => h' (i + 1) d x (by simpa using a) (by simpa using b))
    omega

inductive R3 (K : Nat) (w : World) (S : Foot) : List Value → List D → List Ty → Prop
  | nil : R3 K w S [] [] []
  | cons {v d t vs ds ts} (h : Rep w S v d) (ht : HasK K t d) (hr : R3 K w S vs ds ts) : R3 K w S (v :: vs) (d :: ds) (t :: ts)

section
variable {K : Nat} {d : D} {l : List D} {k : IntKind} {t h : Ty} {f : Nat}
theorem hask_int : HasK K (.int k) d ↔ ∃ n, d = .int k n ∧ inK k n := Iff.rfl
theorem hask_bool : HasK K .bool d ↔ ∃ b, d = .bool b := Iff.rfl
theorem hask_str : HasK K .str d ↔ ∃ s, d = .str s := Iff.rfl
theorem hask_list : HasK K (.list t) d ↔ ∃ l, d = .list l ∧ lenOkK K t l.length ∧ ∀ x ∈ l, HasK K t x := Iff.rfl
theorem hask_agg : HasK K (.agg t) d ↔ ∃ l, d = .agg l ∧ HasLK K t l := Iff.rfl
theorem hask_tup : HasK K (.tup t) d ↔ ∃ l, d = .tup l ∧ HasLK K t l := Iff.rfl
theorem hask_box : HasK K (.box t) d ↔ ∃ l, d = .ptr l ∧ HasLK K t l := Iff.rfl
theorem hask_ptr : HasK K (.ptr t) d ↔ d = .nilp ∨ ∃ l, d = .ptr l ∧ HasLK K t l := Iff.rfl
theorem hask_fn : HasK K (.fn f t) d ↔ ∃ l, d = .fn f l ∧ HasLK K t l := Iff.rfl
theorem hask_nil : HasLK K .nil l ↔ l = [] := Iff.rfl
theorem hask_cons : HasLK K (.cons h t) l ↔ ∃ a r, l = a :: r ∧ HasK K h a ∧ HasLK K t r := Iff.rfl
end

section
variable {w : World} {S : Foot} {K : Nat}
theorem R3.append {vs ds ts vs' ds' ts'} (h : R3 K w S vs ds ts) (h' : R3 K w S vs' ds' ts') : R3 K w S (vs ++ vs') (ds ++ ds') (ts ++ ts') := by
  induction h with
  | nil => exact h'
  | cons a b _ ih => exact .cons a b ih
theorem R3.len {vs ds ts} (h : R3 K w S vs ds ts) : vs.length = ts.length ∧ ds.length = ts.length := by
  induction h with
  | nil => exact ⟨rfl, rfl⟩
  | cons a b _ ih => exact ⟨by simp [ih.1], by simp [ih.2]⟩
theorem R3.get {vs ds ts} (h : R3 K w S vs ds ts) : ∀ (i : Nat) v d, vs[i]? = some v → ds[i]? = some d → Rep w S v d := by
  induction h with
  | nil => intro i v d h; simp at h
  | cons a b _ ih =>
    intro i v d h1 h2
    cases i with
    | zero => simp at h1 h2; subst h1; subst h2; exact a
    | succ i => exact ih i v d (by simpa using h1) (by simpa using h2)
theorem R3.has {vs ds ts} (h : R3 K w S vs ds ts) : HasLK K (.ofL ts) ds := by
  induction h with
  | nil => exact hask_nil.2 rfl
  | cons a b _ ih => exact hask_cons.2 ⟨_, _, rfl, b, ih⟩

theorem cells_notAgg {t : Ty} {d : D} (h : HasK K t d) (hn : notAgg t = true) : d.cells = [d] := by
  cases t with
  | agg fs => cases hn
  | int k => obtain ⟨n, rfl, _⟩ := hask_int.1 h; rfl
  | bool => obtain ⟨n, rfl⟩ := hask_bool.1 h; rfl
  | str => obtain ⟨n, rfl⟩ := hask_str.1 h; rfl
  | list t => obtain ⟨n, rfl, _⟩ := hask_list.1 h; rfl
  | tup t => obtain ⟨n, rfl, _⟩ := hask_tup.1 h; rfl
  | box t => obtain ⟨n, rfl, _⟩ := hask_box.1 h; rfl
  | ptr t => rcases hask_ptr.1 h with rfl | ⟨n, rfl, _⟩ <;> rfl
  | fn f t => obtain ⟨n, rfl, _⟩ := hask_fn.1 h; rfl
  | nil => exact h.elim
  | cons a b => exact h.elim

/-- The datum of a value, of its cells. -/
theorem elem_of {P : Program} {e : TypeId} {ts : List Ty} {t : Ty} {vs : List Value} {ds : List D} (he : elemTy P e ts = some t) (h : R3 K w S vs ds ts) : ∃ d : D, HasK K t d ∧ d.cells = ds ∧ (aggT P e = true → d = .agg ds) ∧ (aggT P e = false → ds = [d]) ∧ d.wt = wtL ds := by
  unfold elemTy at he
  split at he
  · rename_i ha
    injection he with he; subst he
    exact ⟨.agg ds, hask_agg.2 ⟨ds, rfl, h.has⟩, rfl, fun _ => rfl, (fun h => by rw [ha] at h; cases h), by simp [D.wt]⟩
  · rename_i ha
    split at he
    · rename_i t'
      split at he
      · rename_i hn
        injection he with he; subst he
        cases h with
        | cons a b hr =>
          cases hr
          rename_i d
          exact ⟨d, b, cells_notAgg b hn, (fun h => absurd h ha), (fun _ => rfl), by simp [wtL]⟩
      · cases he
    · cases he

variable {H : Type} {enc : TypeId × Value → H} {P : Program} {base : Nat} {spare : Nat → Bool} {held : Bool}

theorem weightsEach_mem {z : Nat} : ∀ {ts : List TypeId} {ds : List (DataW H)} (i : Nat) {t : TypeId} {d : DataW H}, ts[i]? = some t → ds[i]? = some d → z ∈ d.weights P t → z ∈ DataW.weightsEach P ts ds
  | [], _, i, t, d, h, _, _ => by simp at h
  | _ :: _, [], i, t, d, _, h, _ => by simp at h
  | t :: ts, d :: ds, 0, u, e, h1, h2, hz => by
    simp at h1 h2; subst h1; subst h2
    unfold DataW.weightsEach
    exact List.mem_append_left _ hz
  | t :: ts, d :: ds, i + 1, u, e, h1, h2, hz => by
    unfold DataW.weightsEach
    exact List.mem_append_right _ (weightsEach_mem i (by simpa using h1) (by simpa using h2) hz)
theorem weightsAll_mem {z : Nat} {e : TypeId} : ∀ {ds : List (DataW H)} {d : DataW H}, d ∈ ds → z ∈ d.weights P e → z ∈ DataW.weightsAll P e ds
  | [], d, h, _ => by simp at h
  | x :: ds, d, h, hz => by
    unfold DataW.weightsAll
    rcases List.mem_cons.1 h with rfl | h
    · exact List.mem_append_left _ hz
    · exact List.mem_append_right _ (weightsAll_mem h hz)

theorem fields_rep {n m : Nat} {cs : List Value}
    (ih : ∀ (T : TypeId) (cs : List Value) (x : DataW H × List MemPlace) (ts : List Ty), cellTys P n T = some ts → DataW.trod enc P w base spare held m T cs = some x → (∀ b o, MemPlace.cell b o ∈ x.2 → S b o) → (∀ z ∈ x.1.weights P T, z ≤ K) → ∃ ds, R3 K w S cs ds ts ∧ wtL ds ≤ dwt x.1) :
    ∀ (fs : List Field) (xs : List (DataW H × List MemPlace)) (o : Nat) (ts : List Ty), fieldTys (cellTys P n) P.cellsOf o fs = some ts → cs.length = o + ts.length → xs.length = fs.length →
      (∀ (i : Nat) f, fs[i]? = some f → ∃ x : DataW H × List MemPlace, xs[i]? = some x ∧ DataW.trod enc P w base spare held m f.type ((cs.drop f.offset).take (P.cellsOf f.type)) = some x ∧ (∀ b o, MemPlace.cell b o ∈ x.2 → S b o) ∧ ∀ z ∈ x.1.weights P f.type, z ≤ K) →
      ∃ ds, R3 K w S (cs.drop o) ds ts ∧ wtL ds ≤ dwtL (xs.map (·.1))
  | [], xs, o, ts, h, hl, _, _ => by
    simp only [fieldTys, Option.some.injEq] at h
    subst h
    rw [List.drop_of_length_le (by simp at hl; omega)]
    exact ⟨[], .nil, Nat.zero_le _⟩
  | f :: fs, [], o, ts, h, hl, hxl, _ => by simp at hxl
  | f :: fs, x0 :: xs, o, ts, h, hl, hxl, hx => by
    simp only [fieldTys] at h
    split at h
    · rename_i ho
      split at h
      · rename_i t1 ht1
        split at h
        · rename_i hc
          simp only [Option.map_eq_some_iff] at h
          obtain ⟨t2, ht2, rfl⟩ := h
          obtain ⟨x, hx0, hx1, hx2, hx3⟩ := hx 0 f rfl
          simp only [List.getElem?_cons_zero, Option.some.injEq] at hx0
          subst hx0
          obtain ⟨d1, r1, k1⟩ := ih _ _ _ _ ht1 hx1 hx2 hx3
          rw [List.length_append] at hl
          obtain ⟨d2, r2, k2⟩ := fields_rep (cs := cs) ih fs xs (o + t1.length) t2 ht2 (by omega) (by simpa using hxl) (fun i g hg => by
            obtain ⟨y, hy, hr⟩ := hx (i + 1) g (by simpa using hg)
            exact ⟨y, by simpa using hy, hr⟩)
          refine ⟨d1 ++ d2, ?_, by rw [wtL_append]; simp only [List.map_cons, dwtL]; omega⟩
          have := r1.append r2
          rw [hc, ho] at this
          rw [← List.drop_drop, List.take_append_drop] at this
          exact this
        · cases h
      · cases h
    · cases h

theorem trod_rep : ∀ (n m : Nat) (T : TypeId) (cs : List Value) (x : DataW H × List MemPlace) (ts : List Ty), cellTys P n T = some ts → DataW.trod enc P w base spare held m T cs = some x → (∀ b o, MemPlace.cell b o ∈ x.2 → S b o) → (∀ z ∈ x.1.weights P T, z ≤ K) → ∃ ds, R3 K w S cs ds ts ∧ wtL ds ≤ dwt x.1
  | 0, _, _, _, _, _, h, _, _, _ => by cases h
  | n + 1, m, T, cs, x, ts, h, hx, hS, hwt => by
    unfold cellTys at h
    split at h
    · rename_i hu
      injection h with h; subst h
      obtain ⟨b, rfl, rfl⟩ := DataW.trod_bool hu hx
      exact ⟨[.bool b], .cons (.bool b) (hask_bool.2 ⟨b, rfl⟩) .nil, by simp [wtL, D.wt]⟩
    · rename_i k hu
      injection h with h; subst h
      obtain ⟨i, rfl, rfl, hw⟩ := DataW.trod_int hu hx
      exact ⟨[.int k i], .cons (.int k i) (hask_int.2 ⟨i, rfl, by simpa [Lit.wf, inK] using hw⟩) .nil, by simp [wtL, D.wt]⟩
    · rename_i hu
      injection h with h; subst h
      obtain ⟨s, rfl, rfl, _⟩ := DataW.trod_string hu hx
      exact ⟨[.str s], .cons (.str s) (hask_str.2 ⟨s, rfl⟩) .nil, by simp [wtL, D.wt]⟩
    · rename_i e hu
      split at h
      · rename_i t1 ht1
        split at h
        · rename_i hpos
          obtain ⟨hpos, hce⟩ := hpos
          rw [Option.bind_eq_some_iff] at h
          obtain ⟨t, het, h⟩ := h
          split at h
          case isFalse => cases h
          rename_i hbyt
          injection h with h; subst h
          rcases DataW.trod_slice hu hx with ⟨rfl, _⟩ | ⟨a, len, cap, elems, rest, m', rfl, rfl, hxe, _, hlc, hcm, hle, hel, _⟩
          · exact ⟨[.list []], .cons (.nil none 0) (hask_list.2 ⟨[], rfl, lenOkK_zero _ _, by simp⟩) .nil, by simp [wtL, D.wt]⟩
          · rcases Nat.eq_zero_or_pos len with h0 | h0
            · subst h0
              exact ⟨[.list []], .cons (.nil (some a) cap) (hask_list.2 ⟨[], rfl, lenOkK_zero _ _, by simp⟩) .nil, by simp [wtL, D.wt]⟩
            · rw [hce] at hel
              have hwt' : ∀ z ∈ ((elems.map (·.1)).length + (rest.map (·.1)).length) * P.bytesOf e :: (DataW.weightsAll P e (elems.map (·.1)) ++ DataW.weightsAll P e (rest.map (·.1))), z ≤ K := by
                intro z hz
                refine hwt z ?_
                rw [hxe]
                simp only [DataW.weights, hu]
                exact hz
              -- each element
              have hone : ∀ i, i < len → ∃ (ci : List Value) (d : D), w.cells? base (a.add (i * t1.length)) t1.length = some ci ∧ HasK K t d ∧ d.cells.length = t1.length ∧ (∀ (j : Nat) v c, ci[j]? = some v → d.cells[j]? = some c → Rep w S v c) ∧ ∀ x, elems[i]? = some x → d.wt ≤ dwt x.1 := by
                intro i hi
                have h1 := hel i hi
                have h2 : elems[i]? = some (elems[i]'(by omega)) := List.getElem?_eq_getElem _
                rw [h2, Option.bind_eq_some_iff] at h1
                obtain ⟨ci, hci, hti⟩ := h1
                obtain ⟨di, ri, ki⟩ := trod_rep n m' e ci _ t1 ht1 hti (fun b o hb => hS b o (by
                  rw [hxe]
                  refine List.mem_append_right _ (List.mem_flatMap.2 ⟨elems[i]'(by omega), List.mem_append_left _ (List.getElem_mem _), hb⟩))) (fun z hz => hwt' z (List.mem_cons_of_mem _ (List.mem_append_left _ (weightsAll_mem (List.mem_map.2 ⟨_, List.getElem_mem _, rfl⟩) hz))))
                obtain ⟨d, hd, hdc, _, _, hdw⟩ := elem_of het ri
                refine ⟨ci, d, hci, hd, by rw [hdc]; exact ri.len.2, fun j v c hv hc => ?_, fun x hx => by rw [h2] at hx; injection hx with hx; subst hx; rw [hdw]; exact ki⟩
                rw [hdc] at hc
                exact ri.get j v c hv hc
              obtain ⟨b, off, spot⟩ := a
              have hspot : spot = none := by
                obtain ⟨ci, d, hci, _, _⟩ := hone 0 h0
                obtain ⟨_, hlen, hcell⟩ := World.cells?_some hci
                have g0 := hcell 0 hpos
                obtain ⟨c0, hc0⟩ : ∃ c0, ci[0]? = some c0 := ⟨ci[0]'(by omega), List.getElem?_eq_getElem _⟩
                rw [hc0] at g0
                simpa [Addr.add] using World.cell?_spot g0
              subst hspot
              have hch : ∀ i : Nat, ∃ d : D, i < len → HasK K t d ∧ d.cells.length = t1.length ∧ (∀ (j : Nat) c, d.cells[j]? = some c → ∃ v, w.cell? ⟨b, off + (i * t1.length + j), none⟩ = some v ∧ Rep w S v c) ∧ ∀ x, elems[i]? = some x → d.wt ≤ dwt x.1 := by
                intro i
                by_cases hi : i < len
                · obtain ⟨ci, d, hci, hd, hdl, hrep, hwd⟩ := hone i hi
                  obtain ⟨_, hlen, hcell⟩ := World.cells?_some hci
                  refine ⟨d, fun _ => ⟨hd, hdl, fun j c hc => ?_, hwd⟩⟩
                  have hj : j < t1.length := by rw [← hdl]; exact (List.getElem?_eq_some_iff.1 hc).1
                  have g := hcell j hj
                  rw [add_plain, add_plain] at g
                  have hv : ci[j]? = some (ci[j]'(by omega)) := List.getElem?_eq_getElem _
                  refine ⟨_, ?_, hrep j _ c hv hc⟩
                  rw [← Nat.add_assoc, g, hv]
                · exact ⟨.top, fun h => absurd h hi⟩
              have hch' := fun i => Classical.choose_spec (hch i)
              generalize hD : (fun i => Classical.choose (hch i)) = Df at *
              have hDf : ∀ i, Classical.choose (hch i) = Df i := fun i => by rw [← hD]
              simp only [hDf] at hch'
              refine ⟨[.list ((List.range len).map Df)], .cons ?_ (hask_list.2 ⟨_, rfl, ⟨by simp; omega, ?_⟩, ?_⟩) .nil, ?_⟩
              · have hll : ((List.range len).map Df).length = len := by simp
                have hgo : ∀ (i : Nat) d, ((List.range len).map Df)[i]? = some d → i < len ∧ d = Df i := by
                  intro i d hi
                  have hlt : i < len := by rw [← hll]; exact (List.getElem?_eq_some_iff.1 hi).1
                  simp [hlt] at hi
                  exact ⟨hlt, hi.symm⟩
                have := Rep.list (w := w) (S := S) b off cap t1.length ((List.range (len * t1.length)).map fun j => (w.cell? ⟨b, off + j, none⟩).getD undef) ((List.range len).map Df) hpos
                  (by intro h; have := congrArg List.length h; simp at this; omega) (by rw [hll]; exact hlc) (by simp)
                  (fun i hi => hS b (off + i) (by
                    rw [hxe]
                    refine List.mem_append_left _ (MemPlace.mem_row.2 ⟨i, ?_, rfl⟩)
                    simp at hi
                    rw [hce, hle]
                    exact Nat.lt_of_lt_of_le hi (Nat.mul_le_mul_right _ (by omega))))
                  (fun i v hv => by
                    have hi : i < len * t1.length := by have := (List.getElem?_eq_some_iff.1 hv).1; simpa using this
                    simp [hi] at hv
                    -- the cell is there
                    have hq : i / t1.length < len := (Nat.div_lt_iff_lt_mul hpos).2 hi
                    obtain ⟨_, hdl, hcc, _⟩ := hch' (i / t1.length) hq
                    have hr : i % t1.length < (Df (i / t1.length)).cells.length := by rw [hdl]; exact Nat.mod_lt _ hpos
                    obtain ⟨u, hu', _⟩ := hcc (i % t1.length) _ (List.getElem?_eq_getElem hr)
                    have hi2 : i / t1.length * t1.length + i % t1.length = i := by rw [Nat.mul_comm]; exact Nat.div_add_mod i t1.length
                    rw [hi2] at hu'
                    rw [hu'] at hv ⊢
                    exact congrArg some hv)
                  (fun i d hi => by obtain ⟨h1, rfl⟩ := hgo i d hi; exact (hch' i h1).2.1)
                  (fun i d j v c hi hj hv => by
                    obtain ⟨h1, rfl⟩ := hgo i d hi
                    obtain ⟨_, hdl, hcc, _⟩ := hch' i h1
                    obtain ⟨u, hu', hru⟩ := hcc j c hj
                    have hjl : j < t1.length := by rw [← hdl]; exact (List.getElem?_eq_some_iff.1 hj).1
                    have hlt : i * t1.length + j < len * t1.length := by
                      have : (i + 1) * t1.length ≤ len * t1.length := Nat.mul_le_mul_right _ h1
                      rw [Nat.add_mul] at this; omega
                    simp [hlt, hu'] at hv
                    subst hv
                    exact hru)
                rw [hll] at this
                exact this
              · have h9 := hwt' _ (List.mem_cons_self ..)
                rw [← hbyt]
                simp only [List.length_map, List.length_range, hle] at h9 ⊢
                rw [Nat.add_mul] at h9
                omega
              · intro d hd
                obtain ⟨i, hi, rfl⟩ := List.mem_map.1 hd
                exact (hch' i (List.mem_range.1 hi)).1
              · rw [hxe]
                simp only [wtL, D.wt, dwt, List.length_map, List.length_range]
                have := wtL_le (H := H) (ds := (List.range len).map Df) (xs := elems.map (·.1)) (by simp [hle]) (fun i d x hd hx => by
                  have hlt : i < len := by have := (List.getElem?_eq_some_iff.1 hd).1; simpa using this
                  simp [hlt] at hd
                  subst hd
                  rw [List.getElem?_map, Option.map_eq_some_iff] at hx
                  obtain ⟨y, hy, rfl⟩ := hx
                  exact (hch' i hlt).2.2.2 y hy)
                omega
        · cases h
      · cases h
    · rename_i fs hu
      split at h
      · rename_i t1 ht1
        split at h
        · rename_i hct
          injection h with h; subst h
          obtain ⟨xs, m', rfl, rfl, hl, hxl, hf⟩ := DataW.trod_struct hu hx
          have := fields_rep (S := S) (cs := cs) (n := n) (m := m') (enc := enc) (base := base) (spare := spare) (held := held) (fun T cs x ts => trod_rep n m' T cs x ts) fs.toList xs 0 t1 ht1 (by omega) (by simpa using hxl) (fun i f hi => by
            rw [Array.getElem?_toList] at hi
            have hxi := hf i f hi
            have hil : i < xs.length := by rw [hxl]; exact (Array.getElem?_eq_some_iff.1 hi).1
            rw [List.getElem?_eq_getElem hil] at hxi
            refine ⟨_, List.getElem?_eq_getElem hil, hxi, fun b o hb => hS b o (List.mem_flatMap.2 ⟨_, List.getElem_mem hil, hb⟩), fun z hz => hwt z ?_⟩
            simp only [DataW.weights, hu]
            exact weightsEach_mem i (by simp [hi]) (by simp [List.getElem?_eq_getElem hil]) hz)
          simpa [dwt] using this
        · cases h
      · cases h
    · rename_i k e hu
      split at h
      · rename_i t1 ht1
        split at h
        · rename_i hct
          injection h with h; subst h
          obtain ⟨xs, m', rfl, rfl, hl, hxl, hf⟩ := DataW.trod_array hu hx
          have hfi : ∀ (i : Nat) f, (arrFields (P.cellsOf e) e k)[i]? = some f → i < k ∧ f.type = e ∧ f.offset = i * P.cellsOf e := by
            intro i f hi
            unfold arrFields at hi
            rw [List.getElem?_map, Option.map_eq_some_iff] at hi
            obtain ⟨j, hj, rfl⟩ := hi
            obtain ⟨hjk, hji⟩ := List.getElem?_eq_some_iff.1 hj
            rw [List.length_range] at hjk
            rw [List.getElem_range] at hji
            exact ⟨hjk, rfl, by rw [← hji]⟩
          have := fields_rep (S := S) (cs := cs) (n := n) (m := m') (enc := enc) (base := base) (spare := spare) (held := held) (fun T cs x ts => trod_rep n m' T cs x ts) (arrFields (P.cellsOf e) e k) xs 0 t1 ht1 (by omega) (by simp [arrFields, hxl]) (fun i f hi => by
            obtain ⟨hik, e1, e2⟩ := hfi i f hi
            have hxi := hf i hik
            have hil : i < xs.length := by rw [hxl]; exact hik
            rw [List.getElem?_eq_getElem hil] at hxi
            rw [e1, e2]
            refine ⟨_, List.getElem?_eq_getElem hil, hxi, fun b o hb => hS b o (List.mem_flatMap.2 ⟨_, List.getElem_mem hil, hb⟩), fun z hz => hwt z ?_⟩
            simp only [DataW.weights, hu]
            exact weightsAll_mem (List.mem_map.2 ⟨_, List.getElem_mem hil, rfl⟩) hz)
          simpa [dwt] using this
        · cases h
      · cases h
    · cases h
end
end Go.Eng
