/-
  A run of the code in plain data, and that it is sound (0).
-/
import Derived.Orders
import Derived.Below
import Derived.Laws.AppendOwn
import Derived.Laws.Rows
import Derived.Laws.Slices
import Derived.Laws.StructEq
import Derived.Laws.Cells
import Derived.Maps.OwnSet
import Derived.Carry
import Derived.DeepKeys4
/- Data, types, expressions of the symbolic run: what a value reads as, and that it goes on reading so. -/
namespace Go.Eng
open Go Go.RowKit

/-- What a Go value reads as. -/
inductive D where
  | int (k : IntKind) (n : Int)
  | bool (b : Bool)
  | str (s : ByteArray)
  | list (l : List D)
  | agg (l : List D)
  | tup (l : List D)
  | nilp
  | ptr (l : List D)
  | fn (f : Nat) (l : List D)
  | top
  deriving Inhabited

def D.cells : D → List D
  | .agg l => l
  | d => [d]
def D.toI : D → Int
  | .int _ n => n
  | _ => 0
def D.toB : D → Bool
  | .bool b => b
  | _ => false
def D.toL : D → List D
  | .list l => l
  | .agg l => l
  | .tup l => l
  | .ptr l => l
  | .fn _ l => l
  | _ => []
/-- Two keys of a map are one: of integers, or of integers one behind the other. -/
def D.keq (x y : D) : Bool := decide (x.cells.map D.toI = y.cells.map D.toI)
def D.isNilp : D → Bool
  | .nilp => true
  | _ => false

/-- Types; lists of types by 'nil' and 'cons'. -/
inductive Ty where
  | int (k : IntKind)
  | bool
  | str
  | list (t : Ty)
  | agg (fs : Ty)
  | tup (fs : Ty)
  | box (fs : Ty)
  | ptr (fs : Ty)
  | fn (f : Nat) (fs : Ty)
  | nil
  | cons (h t : Ty)
  deriving DecidableEq

def Ty.toL : Ty → List Ty
  | .cons h t => h :: t.toL
  | _ => []
def Ty.ofL : List Ty → Ty
  | [] => .nil
  | h :: t => .cons h (Ty.ofL t)
theorem Ty.toL_ofL (l : List Ty) : (Ty.ofL l).toL = l := by
  induction l with
  | nil => rfl
  | cons h t ih => simp [Ty.ofL, Ty.toL, ih]
def Ty.cells : Ty → List Ty
  | .agg fs => fs.toL
  | t => [t]

/-- The bytes of a scalar, and of a type of scalars one behind the other. -/
def Ty.sc : Ty → Nat
  | .int k => k.bits / 8
  | .bool => 1
  | .str => 16
  | .list _ => 24
  | _ => 8
def Ty.al : Ty → Nat
  | .int k => k.bits / 8
  | .bool => 1
  | _ => 8
def Ty.bytes : Ty → Nat
  | .agg fs =>
    let r := fs.toL.foldl (fun x c => ((x.1 + c.al - 1) / c.al * c.al + c.sc, max x.2 c.al)) (0, 1)
    (r.1 + r.2 - 1) / r.2 * r.2
  | t => t.sc
theorem Ty.bytes_ofL (fs : Ty) : (Ty.agg (.ofL fs.toL)).bytes = (Ty.agg fs).bytes := by
  simp only [Ty.bytes, Ty.toL_ofL]
/-- A list of so many may be: its bytes at most K. -/
def lenOkK (K : Nat) (t : Ty) (n : Nat) : Prop := n ≤ maxLen ∧ n * t.bytes ≤ K
def lenOk (t : Ty) (n : Nat) : Prop := n ≤ maxLen ∧ n * t.bytes ≤ 140737488355328
theorem lenOk_zero (t : Ty) : lenOk t 0 := ⟨Nat.zero_le _, by omega⟩
theorem lenOkK_zero (K : Nat) (t : Ty) : lenOkK K t 0 := ⟨Nat.zero_le _, by omega⟩
theorem lenOk.mono {t : Ty} {n m : Nat} (h : lenOk t n) (hm : m ≤ n) : lenOk t m := ⟨Nat.le_trans hm h.1, Nat.le_trans (Nat.mul_le_mul_right _ hm) h.2⟩

def inK (k : IntKind) (n : Int) : Prop := k.min ≤ n ∧ n ≤ k.max
instance (k : IntKind) (n : Int) : Decidable (inK k n) := inferInstanceAs (Decidable (_ ∧ _))

/-- (what one datum is, what a list of data is). -/
def HasP (K : Nat) : Ty → (D → Prop) × (List D → Prop)
  | .int k => (fun d => ∃ n, d = .int k n ∧ inK k n, fun _ => False)
  | .bool => (fun d => ∃ b, d = .bool b, fun _ => False)
  | .str => (fun d => ∃ s, d = .str s, fun _ => False)
  | .list t => (fun d => ∃ l, d = .list l ∧ lenOkK K t l.length ∧ ∀ x ∈ l, (HasP K t).1 x, fun _ => False)
  | .agg fs => (fun d => ∃ l, d = .agg l ∧ (HasP K fs).2 l, fun _ => False)
  | .tup fs => (fun d => ∃ l, d = .tup l ∧ (HasP K fs).2 l, fun _ => False)
  | .box fs => (fun d => ∃ l, d = .ptr l ∧ (HasP K fs).2 l, fun _ => False)
  | .ptr fs => (fun d => d = .nilp ∨ ∃ l, d = .ptr l ∧ (HasP K fs).2 l, fun _ => False)
  | .fn f fs => (fun d => ∃ l, d = .fn f l ∧ (HasP K fs).2 l, fun _ => False)
  | .nil => (fun _ => False, fun l => l = [])
  | .cons h t => (fun _ => False, fun l => ∃ a r, l = a :: r ∧ (HasP K h).1 a ∧ (HasP K t).2 r)

def HasK (K : Nat) (t : Ty) (d : D) : Prop := (HasP K t).1 d
def HasLK (K : Nat) (t : Ty) (l : List D) : Prop := (HasP K t).2 l
def Has (t : Ty) (d : D) : Prop := (HasP 140737488355328 t).1 d
def HasL (t : Ty) (l : List D) : Prop := (HasP 140737488355328 t).2 l
/-- Where bytes are bounded by less they are bounded. -/
theorem hasP_mono {K K' : Nat} (h : K ≤ K') : ∀ (t : Ty), (∀ d, HasK K t d → HasK K' t d) ∧ ∀ l, HasLK K t l → HasLK K' t l
  | .int _ | .bool | .str => ⟨fun _ h => h, fun _ h => h⟩
  | .nil => ⟨fun _ h => h, fun _ h => h⟩
  | .list t => ⟨fun _ ⟨l, h1, h2, h3⟩ => ⟨l, h1, ⟨h2.1, Nat.le_trans h2.2 h⟩, fun x hx => (hasP_mono h t).1 x (h3 x hx)⟩, fun _ h => h⟩
  | .agg t | .tup t | .box t | .fn _ t => ⟨fun _ ⟨l, h1, h2⟩ => ⟨l, h1, (hasP_mono h t).2 l h2⟩, fun _ h => h⟩
  | .ptr t => ⟨fun _ h' => h'.elim .inl fun ⟨l, h1, h2⟩ => .inr ⟨l, h1, (hasP_mono h t).2 l h2⟩, fun _ h => h⟩
  | .cons a t => ⟨fun _ h => h, fun _ ⟨x, r, h1, h2, h3⟩ => ⟨x, r, h1, (hasP_mono h a).1 x h2, (hasP_mono h t).2 r h3⟩⟩


section
variable {d : D} {l : List D} {k : IntKind} {t h : Ty} {f : Nat}
theorem has_int : Has (.int k) d ↔ ∃ n, d = .int k n ∧ inK k n := Iff.rfl
theorem has_bool : Has .bool d ↔ ∃ b, d = .bool b := Iff.rfl
theorem has_str : Has .str d ↔ ∃ s, d = .str s := Iff.rfl
theorem has_list : Has (.list t) d ↔ ∃ l, d = .list l ∧ lenOk t l.length ∧ ∀ x ∈ l, Has t x := Iff.rfl
theorem has_agg : Has (.agg t) d ↔ ∃ l, d = .agg l ∧ HasL t l := Iff.rfl
theorem has_tup : Has (.tup t) d ↔ ∃ l, d = .tup l ∧ HasL t l := Iff.rfl
theorem has_box : Has (.box t) d ↔ ∃ l, d = .ptr l ∧ HasL t l := Iff.rfl
theorem has_ptr : Has (.ptr t) d ↔ d = .nilp ∨ ∃ l, d = .ptr l ∧ HasL t l := Iff.rfl
theorem has_fn : Has (.fn f t) d ↔ ∃ l, d = .fn f l ∧ HasL t l := Iff.rfl
theorem has_nil : HasL .nil l ↔ l = [] := Iff.rfl
theorem has_cons : HasL (.cons h t) l ↔ ∃ a r, l = a :: r ∧ Has h a ∧ HasL t r := Iff.rfl
end

theorem hasL_len : ∀ {t : Ty} {l : List D}, HasL t l → l.length = t.toL.length
  | .nil, l, h => by rw [has_nil.1 h]; rfl
  | .cons a b, l, h => by
    obtain ⟨x, r, rfl, _, hr⟩ := has_cons.1 h
    simp [Ty.toL, hasL_len hr]
  | .int _, _, h | .bool, _, h | .str, _, h | .list _, _, h | .agg _, _, h | .tup _, _, h | .box _, _, h | .ptr _, _, h | .fn _ _, _, h => h.elim

theorem hasL_get : ∀ {t : Ty} {l : List D}, HasL t l → ∀ (j : Nat) u, t.toL[j]? = some u → ∃ x, l[j]? = some x ∧ Has u x
  | .nil, l, h, j, u, hj => by simp [Ty.toL] at hj
  | .cons a b, l, h, j, u, hj => by
    obtain ⟨x, r, rfl, hx, hr⟩ := has_cons.1 h
    cases j with
    | zero => simp [Ty.toL] at hj; subst hj; exact ⟨x, rfl, hx⟩
    | succ j => exact hasL_get hr j u (by simpa [Ty.toL] using hj)
  | .int _, _, h, _, _, _ | .bool, _, h, _, _, _ | .str, _, h, _, _, _ | .list _, _, h, _, _, _ | .agg _, _, h, _, _, _ | .tup _, _, h, _, _, _ | .box _, _, h, _, _, _ | .ptr _, _, h, _, _, _ | .fn _ _, _, h, _, _, _ => h.elim

theorem hasL_mk : ∀ {ts : List Ty} {l : List D}, l.length = ts.length → (∀ (j : Nat) u x, ts[j]? = some u → l[j]? = some x → Has u x) → HasL (Ty.ofL ts) l
  | [], l, hl, _ => has_nil.2 (List.eq_nil_of_length_eq_zero (by simpa using hl))
  | t :: ts, [], hl, _ => by simp at hl
  | t :: ts, x :: l, hl, h => has_cons.2 ⟨x, l, rfl, h 0 t x rfl rfl, hasL_mk (by simpa using hl) fun j u y h1 h2 => h (j + 1) u y (by simpa using h1) (by simpa using h2)⟩

/-- A type with cells: scalar, or a struct of scalars: as many cells as the datum. -/
theorem has_cells {t : Ty} {d : D} (h : Has t d) : d.cells.length = t.cells.length ∧ ∀ (j : Nat) u, t.cells[j]? = some u → ∃ x, d.cells[j]? = some x ∧ Has u x := by
  by_cases ha : ∃ fs, t = .agg fs
  · obtain ⟨fs, rfl⟩ := ha
    obtain ⟨l, rfl, hl⟩ := has_agg.1 h
    exact ⟨hasL_len hl, hasL_get hl⟩
  · have ht : t.cells = [t] := by cases t <;> first | rfl | exact absurd ⟨_, rfl⟩ ha
    have hd : d.cells = [d] := by
      cases t with
      | agg fs => exact absurd ⟨_, rfl⟩ ha
      | int k => obtain ⟨n, rfl, _⟩ := has_int.1 h; rfl
      | bool => obtain ⟨n, rfl⟩ := has_bool.1 h; rfl
      | str => obtain ⟨n, rfl⟩ := has_str.1 h; rfl
      | list t => obtain ⟨n, rfl, _⟩ := has_list.1 h; rfl
      | tup t => obtain ⟨n, rfl, _⟩ := has_tup.1 h; rfl
      | box t => obtain ⟨n, rfl, _⟩ := has_box.1 h; rfl
      | ptr t => rcases has_ptr.1 h with rfl | ⟨n, rfl, _⟩ <;> rfl
      | fn f t => obtain ⟨n, rfl, _⟩ := has_fn.1 h; rfl
      | nil => exact h.elim
      | cons a b => exact h.elim
    rw [ht, hd]
    refine ⟨rfl, fun j u hj => ?_⟩
    cases j with
    | zero => simp at hj; subst hj; exact ⟨d, rfl, h⟩
    | succ j => simp at hj

/-- Which cells a reading leans on. -/
abbrev Foot := Nat → Nat → Prop

/-- The value reads as the datum, off cells of S alone. -/
inductive Rep (w : World) (S : Foot) : Value → D → Prop
  | int (k : IntKind) (n : Int) : Rep w S (.int k n) (.int k n)
  | bool (b : Bool) : Rep w S (.bool b) (.bool b)
  | str (s : ByteArray) : Rep w S (.string s) (.str s)
  | agg (cs : List Value) (ds : List D) (hl : cs.length = ds.length) (h : ∀ (i : Nat) v d, cs[i]? = some v → ds[i]? = some d → Rep w S v d) : Rep w S (.agg cs.toArray) (.agg ds)
  | tup (cs : List Value) (ds : List D) (hl : cs.length = ds.length) (h : ∀ (i : Nat) v d, cs[i]? = some v → ds[i]? = some d → Rep w S v d) : Rep w S (.tuple cs.toArray) (.tup ds)
  | nilp : Rep w S (.pointer none) .nilp
  | ptr (b : Nat) (cs : List Value) (ds : List D) (hl : cs.length = ds.length) (hS : ∀ i, i < ds.length → S b i) (hc : ∀ (i : Nat) v, cs[i]? = some v → w.cell? ⟨b, i, none⟩ = some v)
      (h : ∀ (i : Nat) v d, cs[i]? = some v → ds[i]? = some d → Rep w S v d) : Rep w S (.pointer (some ⟨b, 0, none⟩)) (.ptr ds)
  | nil (a : Option Addr) (cap : Nat) : Rep w S (.slice a 0 cap) (.list [])
  | list (b off cap sz : Nat) (xs : List Value) (ds : List D) (hsz : 0 < sz) (hne : ds ≠ []) (hcap : ds.length ≤ cap) (hl : xs.length = ds.length * sz)
      (hS : ∀ i, i < xs.length → S b (off + i)) (hc : ∀ (i : Nat) v, xs[i]? = some v → w.cell? ⟨b, off + i, none⟩ = some v)
      (hw : ∀ (i : Nat) d, ds[i]? = some d → d.cells.length = sz)
      (h : ∀ (i : Nat) d (j : Nat) v c, ds[i]? = some d → d.cells[j]? = some c → xs[i * sz + j]? = some v → Rep w S v c) : Rep w S (.slice (some ⟨b, off, none⟩) ds.length cap) (.list ds)
  | fn (f : Nat) (cs : List Value) (ds : List D) (hl : cs.length = ds.length) (h : ∀ (i : Nat) v d, cs[i]? = some v → ds[i]? = some d → Rep w S v d) : Rep w S (.func (.func f) #[] cs.toArray) (.fn f ds)

/-- It goes on reading so, wherever the cells of S hold what they held. -/
theorem Rep.keep {w w' : World} {S S' : Foot} {v : Value} {d : D} (hS : ∀ b o, S b o → S' b o) (hk : ∀ b o, S b o → w'.cell? ⟨b, o, none⟩ = w.cell? ⟨b, o, none⟩) (h : Rep w S v d) : Rep w' S' v d := by
  induction h with
  | int k n => exact .int k n
  | bool b => exact .bool b
  | str s => exact .str s
  | agg cs ds hl _ ih => exact .agg cs ds hl ih
  | tup cs ds hl _ ih => exact .tup cs ds hl ih
  | nilp => exact .nilp
  | ptr b cs ds hl hs hc _ ih =>
    refine .ptr b cs ds hl (fun i hi => hS _ _ (hs i hi)) (fun i v hv => ?_) ih
    have hi : i < cs.length := (List.getElem?_eq_some_iff.1 hv).1
    rw [hk _ _ (hs i (by omega))]
    exact hc i v hv
  | nil a cap => exact .nil a cap
  | list b off cap sz xs ds hsz hne hcap hl hs hc hw _ ih =>
    refine .list b off cap sz xs ds hsz hne hcap hl (fun i hi => hS _ _ (hs i hi)) (fun i v hv => ?_) hw ih
    have hi : i < xs.length := (List.getElem?_eq_some_iff.1 hv).1
    rw [hk _ _ (hs i hi)]
    exact hc i v hv
  | fn f cs ds hl _ ih => exact .fn f cs ds hl ih

section
variable {w : World} {S : Foot} {v : Value} {l : List D} {k : IntKind} {n : Int}
theorem Rep.inv_int (h : Rep w S v (.int k n)) : v = .int k n := by cases h; rfl
theorem Rep.inv_bool {b : Bool} (h : Rep w S v (.bool b)) : v = .bool b := by cases h; rfl
theorem Rep.inv_str {b : ByteArray} (h : Rep w S v (.str b)) : v = .string b := by cases h; rfl
theorem Rep.inv_agg (h : Rep w S v (.agg l)) : ∃ cs : List Value, v = .agg cs.toArray ∧ cs.length = l.length ∧ ∀ (i : Nat) u d, cs[i]? = some u → l[i]? = some d → Rep w S u d := by
  cases h with | agg cs _ hl h => exact ⟨cs, rfl, hl, h⟩
theorem Rep.inv_fn {f : Nat} (h : Rep w S v (.fn f l)) : ∃ cs : List Value, v = .func (.func f) #[] cs.toArray ∧ cs.length = l.length ∧ ∀ (i : Nat) u d, cs[i]? = some u → l[i]? = some d → Rep w S u d := by
  cases h with | fn _ cs _ hl h => exact ⟨cs, rfl, hl, h⟩
theorem Rep.inv_ptr (h : Rep w S v (.ptr l)) : ∃ (b : Nat) (cs : List Value), v = .pointer (some ⟨b, 0, none⟩) ∧ cs.length = l.length ∧ (∀ i, i < l.length → S b i) ∧ (∀ (i : Nat) u, cs[i]? = some u → w.cell? ⟨b, i, none⟩ = some u) ∧
    ∀ (i : Nat) u d, cs[i]? = some u → l[i]? = some d → Rep w S u d := by
  cases h with | ptr b cs _ hl hs hc h => exact ⟨b, cs, rfl, hl, hs, hc, h⟩
theorem Rep.inv_nilp (h : Rep w S v .nilp) : v = .pointer none := by cases h; rfl
theorem Rep.inv_list (h : Rep w S v (.list l)) : ∃ a cap, v = .slice a l.length cap := by
  cases h with
  | nil a cap => exact ⟨a, cap, rfl⟩
  | list b off cap => exact ⟨_, cap, rfl⟩
/-- An element of a slice: where its cells lie, and what they hold. -/
theorem Rep.inv_elem (h : Rep w S v (.list l)) {i : Nat} {d : D} (hi : l[i]? = some d) : ∃ (b off cap : Nat) (u : Nat → Value), v = .slice (some ⟨b, off, none⟩) l.length cap ∧
    ∀ (j : Nat) c, d.cells[j]? = some c → S b (off + i * d.cells.length + j) ∧ w.cell? ⟨b, off + i * d.cells.length + j, none⟩ = some (u j) ∧ Rep w S (u j) c := by
  cases h with
  | nil a cap => simp at hi
  | list b off cap sz xs _ hsz hne hcap hl hs hc hw h =>
    have hsz' := hw i d hi
    have hil : i < l.length := (List.getElem?_eq_some_iff.1 hi).1
    refine ⟨b, off, cap, fun j => xs.getD (i * sz + j) undef, rfl, fun j c hj => ?_⟩
    have hjl : j < d.cells.length := (List.getElem?_eq_some_iff.1 hj).1
    have hlt : i * sz + j < xs.length := by
      have : (i + 1) * sz ≤ l.length * sz := Nat.mul_le_mul_right _ hil
      rw [Nat.add_mul] at this
      omega
    have hx : xs[i * sz + j]? = some (xs.getD (i * sz + j) undef) := by simp [List.getD, hlt]
    rw [hsz', Nat.add_assoc]
    exact ⟨hs _ hlt, hc _ _ hx, h i d j _ c hi hj hx⟩
end

/-- The operations of expressions. -/
inductive U where
  | not | neg (k : IntKind) | len | cell (j : Nat) | part (off n : Nat) | agg | tup | ptrc | fnc (f : Nat) | isnil | wrapk (k : IntKind)
  deriving DecidableEq
inductive B where
  | add (k : IntKind) | sub (k : IntKind) | mul (k : IntKind) | rem (k : IntKind) | quo (k : IntKind)
  | lt | le | gt | ge | eq | ne | and | or | beq | idx | cat | take | drop | min (k : IntKind) | max (k : IntKind) | xor (k : IntKind) | has
  deriving DecidableEq
inductive E where
  | var (i : Nat) | kint (k : IntKind) (n : Int) | kbool (b : Bool) | kstr (s : ByteArray) | nilp
  | nil | cons (h t : E)
  | un (o : U) (e : E) | bin (o : B) (a b : E) | ite (c a b : E)
  deriving DecidableEq, Inhabited

def U.den : U → D → D
  | .not, d => .bool (!d.toB)
  | .neg k, d => .int k (k.wrap (0 - d.toI))
  | .len, d => .int .i64 d.toL.length
  | .cell j, d => d.toL.getD j .top
  | .part off n, d => .agg ((d.toL.drop off).take n)
  | .agg, d => .agg d.toL
  | .tup, d => .tup d.toL
  | .ptrc, d => .ptr d.toL
  | .fnc f, d => .fn f d.toL
  | .isnil, d => .bool d.isNilp
  | .wrapk k, d => .int k (k.wrap d.toI)
def bitXor (k : IntKind) (x y : Int) : Int := k.wrap ((BitVec.ofInt k.bits x ^^^ BitVec.ofInt k.bits y).toNat)
def B.den : B → D → D → D
  | .add k, x, y => .int k (k.wrap (x.toI + y.toI))
  | .sub k, x, y => .int k (k.wrap (x.toI - y.toI))
  | .mul k, x, y => .int k (k.wrap (x.toI * y.toI))
  | .rem k, x, y => .int k (x.toI.tmod y.toI)
  | .quo k, x, y => .int k (k.wrap (x.toI.tdiv y.toI))
  | .lt, x, y => .bool (decide (x.toI < y.toI))
  | .le, x, y => .bool (decide (x.toI ≤ y.toI))
  | .gt, x, y => .bool (decide (x.toI > y.toI))
  | .ge, x, y => .bool (decide (x.toI ≥ y.toI))
  | .eq, x, y => .bool (x.toI == y.toI)
  | .ne, x, y => .bool (x.toI != y.toI)
  | .and, x, y => .bool (x.toB && y.toB)
  | .or, x, y => .bool (x.toB || y.toB)
  | .beq, x, y => .bool (x.toB == y.toB)
  | .idx, x, y => x.toL.getD y.toI.toNat .top
  | .cat, x, y => .list (x.toL ++ y.toL)
  | .take, x, y => .list (x.toL.take y.toI.toNat)
  | .drop, x, y => .list (x.toL.drop y.toI.toNat)
  | .min k, x, y => .int k (if y.toI < x.toI then y.toI else x.toI)
  | .max k, x, y => .int k (if y.toI > x.toI then y.toI else x.toI)
  | .xor k, x, y => .int k (bitXor k x.toI y.toI)
  | .has, x, y => .bool (x.toL.any fun z => z.keq y)

def den (ρ : Nat → D) : E → D
  | .var i => ρ i
  | .kint k n => .int k n
  | .kbool b => .bool b
  | .kstr s => .str s
  | .nilp => .nilp
  | .nil => .list []
  | .cons h t => .list (den ρ h :: (den ρ t).toL)
  | .un o e => o.den (den ρ e)
  | .bin o a b => o.den (den ρ a) (den ρ b)
  | .ite c a b => if (den ρ c).toB then den ρ a else den ρ b

/-- All variables lie below n. -/
def E.lt (n : Nat) : E → Bool
  | .var i => i < n
  | .kint .. | .kbool _ | .kstr _ | .nilp | .nil => true
  | .cons h t => h.lt n && t.lt n
  | .un _ e => e.lt n
  | .bin _ a b => a.lt n && b.lt n
  | .ite c a b => c.lt n && a.lt n && b.lt n

def upd {α : Type} (ρ : Nat → α) (i : Nat) (d : α) : Nat → α := fun j => if j = i then d else ρ j
theorem upd_same {α : Type} (ρ : Nat → α) (i : Nat) (d : α) : upd ρ i d i = d := by simp [upd]
theorem upd_ne {α : Type} (ρ : Nat → α) {i j : Nat} (d : α) (h : j ≠ i) : upd ρ i d j = ρ j := by simp [upd, h]

theorem den_agree {ρ ρ' : Nat → D} {n : Nat} (h : ∀ i, i < n → ρ' i = ρ i) : ∀ {e : E}, e.lt n = true → den ρ' e = den ρ e := by
  intro e
  induction e with
  | var i => intro he; exact h i (by simpa [E.lt] using he)
  | kint | kbool | kstr | nilp | nil => intro _; rfl
  | cons a b iha ihb => intro he; simp only [E.lt, Bool.and_eq_true] at he; simp only [den, iha he.1, ihb he.2]
  | un o e ih => intro he; simp only [E.lt] at he; simp only [den, ih he]
  | bin o a b iha ihb => intro he; simp only [E.lt, Bool.and_eq_true] at he; simp only [den, iha he.1, ihb he.2]
  | ite c a b ihc iha ihb => intro he; simp only [E.lt, Bool.and_eq_true] at he; simp only [den, ihc he.1.1, iha he.1.2, ihb he.2]

def E.ofL : List E → E
  | [] => .nil
  | h :: t => .cons h (E.ofL t)
theorem den_ofL (ρ : Nat → D) (l : List E) : den ρ (E.ofL l) = .list (l.map (den ρ)) := by
  induction l with
  | nil => rfl
  | cons h t ih => simp [E.ofL, den, ih, D.toL]

end Go.Eng
/- Maps whose elements are truths, and that are only ever given 'true': what they read as: the keys that they were given. -/
namespace Go.Eng
open Go Go.RowKit

/-- A map's type whose keys are integers, or structs of such. -/
structure KeyOk (P : Program) (T : TypeId) (kt : Ty) : Prop where
  ex : ∃ k e, P.underlying T = some (.map k e) ∧ P.underlying e = some .bool ∧ (∀ w, (zeroValue e).run P w = .ok (.bool false) w) ∧ Maps.Keyed P k ∧
    ∀ (w : World) (S : Foot) v d, Rep w S v d → Has kt d → ∃ kl, keyOf P k v = some kl
  inj : ∀ (w w' : World) (S S' : Foot) v v' d d', Rep w S v d → Rep w' S' v' d' → Has kt d → Has kt d' → D.keq d d' = true → v = v'
  dist : ∀ (w w' : World) (S S' : Foot) v d d', Rep w S v d → Rep w' S' v d' → Has kt d → Has kt d' → D.keq d d' = true

/-- Block b is a map that was given the keys l. -/
structure MapOk (P : Program) (w : World) (b : Nat) (T : TypeId) (kt : Ty) (l : List D) : Prop where
  key : KeyOk P T kt
  own : ∃ k e n, ∃ D0 : DataW Unit, P.underlying T = some (.map k e) ∧ w.ownsMap P k (plainElem P e) b n D0 ∧ n ≤ l.length ∧ (∀ x ∈ l, Has kt x) ∧
    ∀ (w' : World) (S : Foot) v d kl, Rep w' S v d → Has kt d → keyOf P k v = some kl → D0.atKey kl (.lit (.bool false)) = .lit (.bool (l.any fun z => z.keq d))

theorem MapOk.lt {P : Program} {w : World} {b : Nat} {T : TypeId} {kt : Ty} {l : List D} (h : MapOk P w b T kt l) : b < w.heap.size := by
  obtain ⟨_, _, _, _, _, h1, _⟩ := h.own
  exact h1.lt
theorem MapOk.congr {P : Program} {w w' : World} {b : Nat} {T : TypeId} {kt : Ty} {l : List D} (h : MapOk P w b T kt l) (hb : w'.heap[b]? = w.heap[b]?) : MapOk P w' b T kt l := by
  obtain ⟨k, e, n, D0, h0, ⟨es, clock, h1, h2⟩, h3⟩ := h.own
  exact ⟨h.key, k, e, n, D0, h0, ⟨es, clock, hb.trans h1, h2⟩, h3⟩
theorem MapOk.notCells {P : Program} {w : World} {b : Nat} {T : TypeId} {kt : Ty} {l : List D} (h : MapOk P w b T kt l) {cur : Array Value} {T' : TypeId} {x : Nat × Nat} : w.heap[b]? ≠ some (.cells cur T' x) := by
  obtain ⟨k, e, n, D0, h0, ⟨es, clock, h1, h2⟩, h3⟩ := h.own
  rw [h1]; intro h; cases h

theorem mapOk_made {P : Program} {T : TypeId} {kt : Ty} (h : KeyOk P T kt) (w : World) : MapOk P (w.alloc (.map #[] 0)) w.heap.size T kt [] := by
  obtain ⟨k, e, h1, h2, h3, h4, h5⟩ := h.ex
  exact ⟨h, k, e, 0, .map [], h1, World.ownsMap_made _ _ _ _, Nat.le_refl _, by simp, fun _ _ _ _ _ _ _ _ => rfl⟩

theorem plainElem_bool_inv {P : Program} {e : TypeId} (he : P.underlying e = some .bool) {v : Value} {z : DataW Unit × List MemPlace} (h : plainElem P e v = some z) : ∃ x, v = .bool x ∧ z = (.lit (.bool x), []) := by
  unfold plainElem at h
  rw [he] at h
  cases v <;> simp at h
  exact ⟨_, rfl, h.symm⟩

theorem MapOk.lookup {P : Program} {w : World} {b : Nat} {T : TypeId} {kt : Ty} {l : List D} (h : MapOk P w b T kt l) {w' : World} {S : Foot} {v : Value} {d : D} (hr : Rep w' S v d) (hd : Has kt d) :
    (Instr.lookup T (.map (some b)) v false).run P w = .ok (.bool (l.any fun z => z.keq d)) w := by
  obtain ⟨k, e, n, D0, h0, h1, h2, h3, h4⟩ := h.own
  obtain ⟨k', e', g1, g2, g3, g4, g5⟩ := h.key.ex
  rw [h0] at g1
  injection g1 with g1; injection g1 with g1 g1'; subst g1; subst g1'
  obtain ⟨kl, hkl⟩ := g5 w' S v d hr hd
  obtain ⟨u, ps, hrun, hu⟩ := h1.lookup g4 h0 (g3 w) (plainElem_bool g2 false) hkl
  obtain ⟨x, rfl, hx⟩ := plainElem_bool_inv g2 hu
  rw [h4 w' S v d kl hr hd hkl] at hx
  simp only [Prod.mk.injEq, DataW.lit.injEq, Lit.bool.injEq] at hx
  rw [hrun, hx.1]

theorem MapOk.update {P : Program} {w : World} {b : Nat} {T : TypeId} {kt : Ty} {l : List D} (h : MapOk P w b T kt l) {w' : World} {S : Foot} {v : Value} {d : D} (hr : Rep w' S v d) (hd : Has kt d) (hroom : l.length < maxLen) :
    ∃ w2, (Instr.mapUpdate T (.map (some b)) v (.bool true)).run P w = .ok () w2 ∧ MapOk P w2 b T kt (d :: l) ∧ w.grownBy w2 (some b) := by
  obtain ⟨k, e, n, D0, h0, h1, h2, h3, h4⟩ := h.own
  obtain ⟨k', e', g1, g2, g3, g4, g5⟩ := h.key.ex
  rw [h0] at g1
  injection g1 with g1; injection g1 with g1 g1'; subst g1; subst g1'
  obtain ⟨kl, hkl⟩ := g5 w' S v d hr hd
  obtain ⟨w2, r1, r2, r3⟩ := h1.update g4 h0 (Nat.lt_of_le_of_lt h2 hroom) hkl (plainElem_bool g2 true)
  refine ⟨w2, r1, ⟨h.key, k, e, n + 1, _, h0, r2, by simpa using h2, fun x hx => ?_, fun w3 S3 v3 d3 kl3 q1 q2 q3 => ?_⟩, r3⟩
  · rcases List.mem_cons.1 hx with rfl | hx
    · exact hd
    · exact h3 x hx
  · by_cases hkk : kl3 = kl
    · subst hkk
      have hv : v3 = v := g4.inj q3 hkl
      subst hv
      rw [Maps.atKey_put_same h1.isMap (g4.key hkl), List.any_cons, h.key.dist _ _ _ _ _ _ _ hr q1 hd q2]; rfl
    · rw [Maps.atKey_put_other hkk, h4 w3 S3 v3 d3 kl3 q1 q2 q3, List.any_cons]
      cases hq : D.keq d d3 with
      | false => rfl
      | true =>
        have hv := h.key.inj _ _ _ _ _ _ _ _ hr q1 hd q2 hq
        subst hv
        rw [hkl] at q3; injection q3 with q3; exact absurd q3.symm hkk

end Go.Eng
/- The symbolic state, and when a frame and a world are as it says. -/
namespace Go.Eng
open Go Go.RowKit

abbrev Tag := Nat × Nat
/-- Tags of slices that no reading leans on: they are written element by element. -/
def exN (j : Nat) : Bool := decide (1000 ≤ j)
def Tag.ex (g : Tag) : Bool := exN g.2

/-- What a cell, or a temporary, holds. -/
inductive SC where
  | dat (e : E) (t : Ty)
  | nils (t : Ty)
  | own (g : Tag) (e : E) (t : Ty)
  | clip (e : E) (t : Ty)
  | adr (id off : Nat)
  | eadr (l i : E) (t : Ty) (off : Nat)
  | padr (e : E) (fs : Ty) (off : Nat)
  | xo (g : Tag) (t : Ty)
  | xadr (g : Tag) (i : E) (t : Ty) (off : Nat)
  | mref (id : Nat)
  | mnil
  | mcon (e : E) (kt : Ty) (T : TypeId)
  deriving DecidableEq

/-- What stands for a map among the blocks: the keys that it was given; their type; the map's. -/
def mapOf : List SC → Option (E × Ty × TypeId)
  | [.mcon e kt T] => some (e, kt, T)
  | _ => none

inductive SV where
  | one (c : SC)
  | agg (l : List SC)
  | tup (l : List (Bool × List SC))
  deriving DecidableEq

abbrev Cond := List (E × Bool)
def condB (ρ : Nat → D) (c : Cond) : Bool := c.all fun x => (den ρ x.1).toB == x.2

structure St where
  tm : Nat → Option (Cond × SV)
  hp : Nat → Option (Bool × List SC)
  live : Tag → Option (E × TypeId × Ty)

/-- What stands behind it: the cells that readings lean on, where the boxes lie, what the owned slices are. -/
structure Gh where
  S : Foot
  β : Nat → Nat
  τ : Tag → Value

def Ty.scalar : Ty → Bool
  | .int _ | .bool | .str | .list _ | .box _ | .ptr _ | .fn _ _ => true
  | _ => false
def SC.scalar : SC → Bool
  | .dat _ t => t.scalar
  | _ => true

def SC.lt (n : Nat) : SC → Bool
  | .dat e _ | .own _ e _ | .padr e _ _ | .clip e _ => e.lt n
  | .eadr l i _ _ => l.lt n && i.lt n
  | .xadr _ i _ _ => i.lt n
  | .mcon e _ _ => e.lt n
  | .nils _ | .adr .. | .xo .. | .mref _ | .mnil => true
def SV.lt (n : Nat) : SV → Bool
  | .one c => c.lt n
  | .agg l => l.all (SC.lt n)
  | .tup l => l.all fun x => x.2.all (SC.lt n)

/-- N: the bound of the variables; M: the numbers of boxes and tags that are there. -/
structure Cx where
  ρ : Nat → D
  N : Nat
  M : Nat → Prop

def RSC (C : Cx) (w : World) (G : Gh) : SC → Value → Prop
  | .dat e t, v => e.lt C.N = true ∧ Rep w G.S v (den C.ρ e) ∧ Has t (den C.ρ e)
  | .nils _, v => v = .slice none 0 0
  | .own g e t, v => C.M g.1 ∧ e.lt C.N = true ∧ Rep w G.S v (den C.ρ e) ∧ Has (.list t) (den C.ρ e) ∧ v = G.τ g
  | .clip e t, v => e.lt C.N = true ∧ Rep w G.S v (den C.ρ e) ∧ Has (.list t) (den C.ρ e) ∧ ∃ a, v = .slice a (den C.ρ e).toL.length (den C.ρ e).toL.length
  | .adr id off, v => C.M id ∧ v = .pointer (some ⟨G.β id, off, none⟩)
  | .eadr l i t off, v => l.lt C.N = true ∧ i.lt C.N = true ∧ ∃ (b o : Nat) (u : Nat → Value), v = .pointer (some ⟨b, o + off, none⟩) ∧ Has t (den C.ρ (.bin .idx l i)) ∧
      ∀ (j : Nat) c, (den C.ρ (.bin .idx l i)).cells[j]? = some c → G.S b (o + j) ∧ w.cell? ⟨b, o + j, none⟩ = some (u j) ∧ Rep w G.S (u j) c
  | .padr e fs off, v => e.lt C.N = true ∧ ∃ (b : Nat) (l : List D) (u : Nat → Value), den C.ρ e = .ptr l ∧ HasL fs l ∧ v = .pointer (some ⟨b, off, none⟩) ∧
      ∀ (j : Nat) c, l[j]? = some c → G.S b j ∧ w.cell? ⟨b, j, none⟩ = some (u j) ∧ Rep w G.S (u j) c
  | .xo g _, v => C.M g.1 ∧ v = G.τ g ∧ ∃ a n cap, v = .slice a n cap
  | .xadr g i t off, v => C.M g.1 ∧ i.lt C.N = true ∧ ∃ b cap n, G.τ g = .slice (some ⟨b, 0, none⟩) n cap ∧ 0 ≤ (den C.ρ i).toI ∧ (den C.ρ i).toI.toNat < n ∧
      v = .pointer (some ⟨b, (den C.ρ i).toI.toNat * t.cells.length + off, none⟩)
  | .mref id, v => C.M id ∧ v = .map (some (G.β id))
  | .mnil, v => v = .map none ∨ v = .nilFunc
  | .mcon .., _ => False

def RSCs (C : Cx) (w : World) (G : Gh) (l : List SC) (vs : List Value) : Prop :=
  vs.length = l.length ∧ ∀ (i : Nat) c v, l[i]? = some c → vs[i]? = some v → RSC C w G c v

def RComp (C : Cx) (w : World) (G : Gh) (x : Bool × List SC) (v : Value) : Prop :=
  if x.1 then ∃ vs : List Value, v = .agg vs.toArray ∧ RSCs C w G x.2 vs else ∃ c, x.2 = [c] ∧ RSC C w G c v

def RSV (C : Cx) (w : World) (G : Gh) : SV → Value → Prop
  | .one c, v => RSC C w G c v
  | .agg l, v => ∃ vs : List Value, v = .agg vs.toArray ∧ RSCs C w G l vs
  | .tup l, v => ∃ vs : List Value, v = .tuple vs.toArray ∧ vs.length = l.length ∧ ∀ (i : Nat) x u, l[i]? = some x → vs[i]? = some u → RComp C w G x u

/-- A later state of the ghosts and of memory: what held goes on holding. -/
structure Later (C : Cx) (w : World) (G : Gh) (C' : Cx) (w' : World) (G' : Gh) : Prop where
  den : ∀ e : E, e.lt C.N = true → Eng.den C'.ρ e = Eng.den C.ρ e ∧ e.lt C'.N = true
  M : ∀ i, C.M i → C'.M i
  S : ∀ b o, G.S b o → G'.S b o
  cell : ∀ b o, G.S b o → w'.cell? ⟨b, o, none⟩ = w.cell? ⟨b, o, none⟩
  β : ∀ i, C.M i → G'.β i = G.β i
  τ : ∀ g : Tag, C.M g.1 → G'.τ g = G.τ g

section
variable {C C' : Cx} {w w' : World} {G G' : Gh} {v : Value}

theorem RSC.later (h : Later C w G C' w' G') : ∀ {c : SC}, RSC C w G c v → RSC C' w' G' c v
  | .dat e t, ⟨h1, h2, h3⟩ => by
    obtain ⟨h4, h5⟩ := h.den e h1
    exact ⟨h5, h4 ▸ h2.keep h.S h.cell, h4 ▸ h3⟩
  | .nils _, hv => hv
  | .own g e t, ⟨hm, h1, h2, h3, h6⟩ => by
    obtain ⟨h4, h5⟩ := h.den e h1
    exact ⟨h.M _ hm, h5, h4 ▸ h2.keep h.S h.cell, h4 ▸ h3, by rw [h.τ g hm]; exact h6⟩
  | .clip e t, ⟨h1, h2, h3, a, h6⟩ => by
    obtain ⟨h4, h5⟩ := h.den e h1
    exact ⟨h5, h4 ▸ h2.keep h.S h.cell, h4 ▸ h3, a, by rw [h4]; exact h6⟩
  | .adr id off, ⟨hm, hv⟩ => ⟨h.M _ hm, by rw [h.β id hm]; exact hv⟩
  | .eadr l i t off, ⟨hl, hi, b, o, u, hv, ht, hc⟩ => by
    have h4 : Eng.den C'.ρ (.bin .idx l i) = Eng.den C.ρ (.bin .idx l i) := (h.den (.bin .idx l i) (by simp [E.lt, hl, hi])).1
    refine ⟨(h.den l hl).2, (h.den i hi).2, b, o, u, hv, h4 ▸ ht, fun j c hj => ?_⟩
    rw [h4] at hj
    obtain ⟨h5, h6, h7⟩ := hc j c hj
    exact ⟨h.S _ _ h5, by rw [h.cell _ _ h5]; exact h6, h7.keep h.S h.cell⟩
  | .padr e fs off, ⟨he, b, l, u, h1, h2, hv, hc⟩ => by
    refine ⟨(h.den e he).2, b, l, u, by rw [(h.den e he).1]; exact h1, h2, hv, fun j c hj => ?_⟩
    obtain ⟨h5, h6, h7⟩ := hc j c hj
    exact ⟨h.S _ _ h5, by rw [h.cell _ _ h5]; exact h6, h7.keep h.S h.cell⟩
  | .xo g t, ⟨hm, hv, hsl⟩ => ⟨h.M _ hm, by rw [h.τ g hm]; exact hv, hsl⟩
  | .xadr g i t off, ⟨hm, hi, b, cap, n, h1, h2, h3, h4⟩ => ⟨h.M _ hm, (h.den i hi).2, b, cap, n, by rw [h.τ g hm]; exact h1, by rw [(h.den i hi).1]; exact h2, by rw [(h.den i hi).1]; exact h3, by rw [(h.den i hi).1]; exact h4⟩
  | .mref id, ⟨hm, hv⟩ => ⟨h.M _ hm, by rw [h.β id hm]; exact hv⟩
  | .mnil, hv => hv
  | .mcon .., hv => hv.elim

theorem RSCs.later (h : Later C w G C' w' G') {l : List SC} {vs : List Value} (hr : RSCs C w G l vs) : RSCs C' w' G' l vs :=
  ⟨hr.1, fun i c v h1 h2 => (hr.2 i c v h1 h2).later h⟩

theorem RComp.later (h : Later C w G C' w' G') {x : Bool × List SC} (hr : RComp C w G x v) : RComp C' w' G' x v := by
  unfold RComp at *
  split
  · rename_i hx; rw [if_pos hx] at hr; obtain ⟨vs, h1, h2⟩ := hr; exact ⟨vs, h1, h2.later h⟩
  · rename_i hx; rw [if_neg hx] at hr; obtain ⟨c, h1, h2⟩ := hr; exact ⟨c, h1, h2.later h⟩

theorem RSV.later (h : Later C w G C' w' G') : ∀ {s : SV}, RSV C w G s v → RSV C' w' G' s v
  | .one _, hr => RSC.later h hr
  | .agg _, ⟨vs, h1, h2⟩ => ⟨vs, h1, h2.later h⟩
  | .tup _, ⟨vs, h1, h2, h3⟩ => ⟨vs, h1, h2, fun i x u hx hu => (h3 i x u hx hu).later h⟩

theorem Later.refl (C : Cx) (w : World) (G : Gh) : Later C w G C w G := ⟨fun _ h => ⟨rfl, h⟩, fun _ h => h, fun _ _ h => h, fun _ _ _ => rfl, fun _ _ => rfl, fun _ _ => rfl⟩

theorem Later.trans {C'' : Cx} {w'' : World} {G'' : Gh} (h : Later C w G C' w' G') (k : Later C' w' G' C'' w'' G'') : Later C w G C'' w'' G'' where
  den e he := by obtain ⟨h1, h2⟩ := h.den e he; obtain ⟨h3, h4⟩ := k.den e h2; exact ⟨h3.trans h1, h4⟩
  M i hi := k.M i (h.M i hi)
  S b o hs := k.S b o (h.S b o hs)
  cell b o hs := (k.cell b o (h.S b o hs)).trans (h.cell b o hs)
  β i hi := (k.β i (h.M i hi)).trans (h.β i hi)
  τ g hg := (k.τ g (h.M _ hg)).trans (h.τ g hg)

/-- One cell. -/
theorem Rep.oneCell {w : World} {S : Foot} {d : D} {t : Ty} (h : Rep w S v d) (ht : Has t d) (hs : t.scalar = true) : v.oneCell' = true := by
  cases h <;> first
    | rfl
    | (cases t <;> simp [Ty.scalar] at hs <;> simp [has_int, has_bool, has_str, has_list, has_box, has_ptr, has_fn] at ht)

theorem RSC.oneCell {c : SC} (h : RSC C w G c v) (hs : c.scalar = true) : v.oneCell' = true := by
  cases c with
  | dat e t => exact h.2.1.oneCell h.2.2 hs
  | nils t => simp only [RSC] at h; subst h; rfl
  | own g e t => exact h.2.2.1.oneCell h.2.2.2.1 rfl
  | clip e t => exact h.2.1.oneCell h.2.2.1 rfl
  | adr id off => obtain ⟨_, rfl⟩ := h; rfl
  | eadr l i t off => obtain ⟨_, _, b, o, u, rfl, _⟩ := h; rfl
  | padr e fs off => obtain ⟨_, b, l, u, _, _, rfl, _⟩ := h; rfl
  | xo g t => obtain ⟨_, _, a, n, cap, rfl⟩ := h; rfl
  | xadr g i t off => obtain ⟨_, _, b, cap, n, _, _, _, rfl⟩ := h; rfl
  | mref id => obtain ⟨_, rfl⟩ := h; rfl
  | mnil => simp only [RSC] at h; rcases h with rfl | rfl <;> rfl
  | mcon e kt T => exact h.elim

theorem Rep.aggOf {w : World} {S : Foot} {d : D} {fs : Ty} (h : Rep w S v d) (ht : Has (.agg fs) d) : ∃ l : List D, d = .agg l ∧ HasL fs l ∧ ∃ cs : List Value, v = .agg cs.toArray ∧ cs.length = l.length ∧
    ∀ (i : Nat) u c, cs[i]? = some u → l[i]? = some c → Rep w S u c := by
  obtain ⟨l, rfl, hl⟩ := has_agg.1 ht
  obtain ⟨cs, h1, h2, h3⟩ := h.inv_agg
  exact ⟨l, rfl, hl, cs, h1, h2, h3⟩
end

/-- What a block of the call's own holds: cells, or a map's entries. -/
def BlkOk (P : Program) (C : Cx) (w : World) (G : Gh) (b : Nat) (cs : List SC) : Prop :=
  match mapOf cs with
  | some (e, kt, T) => e.lt C.N = true ∧ Has (.list kt) (den C.ρ e) ∧ MapOk P w b T kt (den C.ρ e).toL
  | none => ∃ (vs : List Value) (T : TypeId), w.heap[b]? = some (.cells vs.toArray T (0, 0)) ∧ RSCs C w G cs vs
theorem BlkOk.cells {P : Program} {C : Cx} {w : World} {G : Gh} {b : Nat} {cs : List SC} (h : BlkOk P C w G b cs) (hm : mapOf cs = none) : ∃ (vs : List Value) (T : TypeId), w.heap[b]? = some (.cells vs.toArray T (0, 0)) ∧ RSCs C w G cs vs := by
  unfold BlkOk at h; rw [hm] at h; exact h
theorem BlkOk.isCells {P : Program} {C : Cx} {w : World} {G : Gh} {b : Nat} {cs : List SC} (h : BlkOk P C w G b cs) {cur : Array Value} {T : TypeId} {x : Nat × Nat} (hc : w.heap[b]? = some (.cells cur T x)) : ∃ (vs : List Value) (T : TypeId), w.heap[b]? = some (.cells vs.toArray T (0, 0)) ∧ RSCs C w G cs vs := by
  unfold BlkOk at h
  split at h
  · exact absurd hc h.2.2.notCells
  · exact h
theorem BlkOk.mk {P : Program} {C : Cx} {w : World} {G : Gh} {b : Nat} {cs : List SC} {vs : List Value} {T : TypeId} (h : w.heap[b]? = some (.cells vs.toArray T (0, 0))) (hr : RSCs C w G cs vs) : BlkOk P C w G b cs := by
  unfold BlkOk
  split
  · rename_i e kt T' hm
    unfold mapOf at hm
    split at hm
    · cases hl : vs with
      | nil => have := hr.1; rw [hl] at this; simp at this
      | cons v vs' => exact (hr.2 0 _ v rfl (by rw [hl]; rfl)).elim
    · cases hm
  · exact ⟨vs, T, h, hr⟩
theorem BlkOk.later {P : Program} {C C' : Cx} {w w' : World} {G G' : Gh} {b : Nat} {cs : List SC} (hlat : Later C w G C' w' G') (h : BlkOk P C w G b cs) (hb : w'.heap[b]? = w.heap[b]?) : BlkOk P C' w' G' b cs := by
  unfold BlkOk at *
  split
  · rename_i e kt T hm
    rw [hm] at h
    obtain ⟨h1, h2, h3⟩ := h
    obtain ⟨d1, d2⟩ := hlat.den e h1
    exact ⟨d2, by rw [d1]; exact h2, by rw [d1]; exact h3.congr hb⟩
  · rename_i hm
    rw [hm] at h
    obtain ⟨vs, T, h1, h2⟩ := h
    exact ⟨vs, T, by rw [hb]; exact h1, h2.later hlat⟩
theorem BlkOk.lt {P : Program} {C : Cx} {w : World} {G : Gh} {b : Nat} {cs : List SC} (h : BlkOk P C w G b cs) : b < w.heap.size := by
  unfold BlkOk at h
  split at h
  · exact h.2.2.lt
  · obtain ⟨vs, T, h1, _⟩ := h
    exact (Array.getElem?_eq_some_iff.1 h1).1

/-- What a live owned slice is. -/
structure OwnOk (C : Cx) (w : World) (base : Nat) (G : Gh) (g : Tag) (e : E) (T : TypeId) (t : Ty) : Prop where
  m : C.M g.1
  lt : e.lt C.N = true
  has : Has (.list t) (den C.ρ e)
  own : ∃ xs l, den C.ρ e = .list l ∧ w.ownsRow base T t.cells.length (G.τ g) l.length xs ∧ (∀ b, (G.τ g).ownBlock = some b → ∀ o, G.S b o ↔ g.ex = false ∧ o < xs.length) ∧
    ∀ (i : Nat) d (j : Nat) v c, l[i]? = some d → d.cells[j]? = some c → xs[i * t.cells.length + j]? = some v → Rep w G.S v c

/-- What a call was given: the cells that its arguments lean on; the blocks that it may write; its objects, by their numbers, and where they lie; whether what it makes is to lean on new blocks alone; whether all that readings lean on may be written; the program; the marks that its loops over functions have left. -/
structure Base where
  foot : Foot
  mu : Nat → Prop
  pin : Nat → Option Nat
  fr : Prop
  wz : Prop
  prog : Program := default
  dfs : List Deferred := []

/-- Of what was there only blocks that the call may write have turned. -/
structure BelowX (mu : Nat → Prop) (w w' : World) : Prop where
  os : w'.os = w.os
  tape : w'.tape = w.tape
  output : w'.output = w.output
  size : w.heap.size ≤ w'.heap.size
  block : ∀ k, k < w.heap.size → ¬ mu k → w'.heap[k]? = w.heap[k]?
theorem BelowX.refl (mu : Nat → Prop) (w : World) : BelowX mu w w := ⟨rfl, rfl, rfl, Nat.le_refl _, fun _ _ _ => rfl⟩
theorem BelowX.trans {mu : Nat → Prop} {a b c : World} (h : BelowX mu a b) (k : BelowX mu b c) : BelowX mu a c :=
  ⟨k.os.trans h.os, k.tape.trans h.tape, k.output.trans h.output, Nat.le_trans h.size k.size, fun i hi hm => (k.block i (Nat.lt_of_lt_of_le hi h.size) hm).trans (h.block i hi hm)⟩
theorem BelowX.of {mu : Nat → Prop} {w w' : World} (h : Below w.heap.size w w') : BelowX mu w w' := ⟨h.os, h.tape, h.output, h.size, fun k hk _ => h.block k hk⟩
theorem BelowX.to {mu : Nat → Prop} {w w' : World} (h : BelowX mu w w') (hm : ∀ b, ¬ mu b) : Below w.heap.size w w' := ⟨h.os, h.tape, h.output, h.size, fun k hk => h.block k hk (hm k)⟩
theorem BelowX.alloc {mu : Nat → Prop} {a w : World} (h : BelowX mu a w) (o : Obj) : BelowX mu a (w.alloc o) :=
  h.trans ⟨rfl, rfl, rfl, by simp, fun k hk _ => Below.heap_alloc _ _ _ hk⟩
theorem BelowX.drew {mu : Nat → Prop} {a w : World} (h : BelowX mu a w) : BelowX mu a { w with drawn := w.drawn + 1 } := ⟨h.os, h.tape, h.output, h.size, h.block⟩
/-- A block of the call's own, or one that it may write. -/
def NewB (w0 : World) (S0 : Base) (b : Nat) : Prop := w0.heap.size ≤ b ∨ S0.mu b
/-- A box: of the call's own, or an object that it was handed. -/
def BoxB (w0 : World) (S0 : Base) (b : Nat) : Prop := w0.heap.size ≤ b ∨ S0.mu b ∧ ∃ i, S0.pin i = some b

/-- A number, or the like, or a slice in one of these blocks. -/
def ValIn (X : Nat → Prop) : Value → Prop
  | .int _ _ => True
  | .bool _ => True
  | .string _ => True
  | .slice a n _ => n = 0 ∨ ∃ b o, a = some ⟨b, o, none⟩ ∧ X b
  | _ => False
theorem ValIn.mono {X Y : Nat → Prop} (h : ∀ b, X b → Y b) {v : Value} (hv : ValIn X v) : ValIn Y v := by
  cases v <;> first
    | exact hv
    | (rcases hv with hv | ⟨b, o, h1, h2⟩
       · exact .inl hv
       · exact .inr ⟨b, o, h1, h b h2⟩)
/-- Blocks of a kind that hold numbers and the like, and slices in such blocks. -/
def FrSet (z : Nat → Prop) (w : World) (S : Foot) (X : Nat → Prop) : Prop := ∀ b, X b → z b ∧ (∃ o, S b o) ∧ (∃ cur T, w.heap[b]? = some (.cells cur T (0, 0))) ∧ ∀ o v, S b o → w.cell? ⟨b, o, none⟩ = some v → ValIn X v
def FrB (z : Nat → Prop) (w : World) (S : Foot) (b : Nat) : Prop := ∃ X, FrSet z w S X ∧ X b
def FrV (z : Nat → Prop) (w : World) (S : Foot) (v : Value) : Prop := ∀ a n cap, v = .slice a n cap → ValIn (FrB z w S) v
theorem FrB.set (z : Nat → Prop) (w : World) (S : Foot) : FrSet z w S (FrB z w S) := by
  rintro b ⟨X, hX, hb⟩
  obtain ⟨h1, h2, h4, h3⟩ := hX b hb
  exact ⟨h1, h2, h4, fun o v hs hc => (h3 o v hs hc).mono fun b hb => ⟨X, hX, hb⟩⟩
theorem FrB.mono {z : Nat → Prop} {w w' : World} {S S' : Foot} (hh : ∀ b o, S b o → w'.heap[b]? = w.heap[b]?) (hS : ∀ b o, S b o → S' b o) (hnew : ∀ b o, S' b o → (∃ o', S b o') → S b o) {b : Nat} (h : FrB z w S b) : FrB z w' S' b := by
  obtain ⟨X, hX, hb⟩ := h
  refine ⟨X, fun b' hb' => ?_, hb⟩
  obtain ⟨h1, ⟨o1, h2⟩, h4, h3⟩ := hX b' hb'
  refine ⟨h1, ⟨o1, hS _ _ h2⟩, by rw [hh _ _ h2]; exact h4, fun o v hs hcv => ?_⟩
  have hs' := hnew b' o hs ⟨o1, h2⟩
  exact h3 o v hs' (by rw [← hcv]; simp only [World.cell?, hh _ _ hs'])

theorem FrV.mono {z : Nat → Prop} {w w' : World} {S S' : Foot} (hh : ∀ b o, S b o → w'.heap[b]? = w.heap[b]?) (hS : ∀ b o, S b o → S' b o) (hnew : ∀ b o, S' b o → (∃ o', S b o') → S b o) {v : Value} (h : FrV z w S v) : FrV z w' S' v :=
  fun a n cap hv => (h a n cap hv).mono fun _ hb => hb.mono hh hS hnew
theorem FrV.weak {z z' : Nat → Prop} {w : World} {S : Foot} {v : Value} (h : FrV z w S v) (hz : ∀ b, z b → z' b) : FrV z' w S v := fun a n cap hv => (h a n cap hv).mono fun b hb => by
  obtain ⟨X, hX, hb⟩ := hb
  exact ⟨X, fun b' hb' => by obtain ⟨h1, h2, h3, h4⟩ := hX b' hb'; exact ⟨hz b' h1, h2, h3, h4⟩, hb⟩
theorem FrV.nilIface {z : Nat → Prop} {w : World} {S : Foot} : FrV z w S .nilIface := fun _ _ _ h => by cases h

/-- Memory is as the state says. -/
structure SimM (w0 : World) (S0 : Base) (C : Cx) (G : Gh) (σ : St) (w : World) : Prop where
  below : BelowX S0.mu w0 w
  foot0 : ∀ b o, S0.foot b o → G.S b o
  keep : ∀ b o, S0.foot b o → w.cell? ⟨b, o, none⟩ = w0.cell? ⟨b, o, none⟩
  pin : ∀ i b, S0.pin i = some b → C.M i ∧ G.β i = b
  pinmu : ∀ i b, S0.pin i = some b → True
  footlt : ∀ b o, G.S b o → b < w.heap.size
  footnew : ∀ b o, G.S b o → S0.foot b o ∨ NewB w0 S0 b
  boxM : ∀ id x, σ.hp id = some x → C.M id
  box : ∀ id ro cs, σ.hp id = some (ro, cs) → BoxB w0 S0 (G.β id) ∧ (cs.all SC.scalar = true) ∧ BlkOk S0.prog C w G (G.β id) cs ∧
    (if ro then ∀ o, o < cs.length → G.S (G.β id) o else ∀ o, ¬ G.S (G.β id) o)
  inj : ∀ i j x y, σ.hp i = some x → σ.hp j = some y → G.β i = G.β j → i = j
  own : ∀ g e T t, σ.live g = some (e, T, t) → OwnOk C w 0 G g e T t
  ownnew : ∀ g x b, σ.live g = some x → (G.τ g).ownBlock = some b → NewB w0 S0 b
  ownne : ∀ g g' x y b, σ.live g = some x → σ.live g' = some y → (G.τ g).ownBlock = some b → (G.τ g').ownBlock = some b → g = g'
  ownbox : ∀ g id x y b, σ.live g = some x → σ.hp id = some y → (G.τ g).ownBlock = some b → b ≠ G.β id
  fresh : S0.fr → ∀ g, FrV (NewB w0 S0) w G.S (G.τ g)
  wz : S0.wz → ∀ b o, G.S b o → ∃ cur T, w.heap[b]? = some (.cells cur T (0, 0))

theorem SimM.newB {w0 : World} {S0 : Base} {C : Cx} {G : Gh} {σ : St} {w : World} (h : SimM w0 S0 C G σ w) {b : Nat} (hb : BoxB w0 S0 b) : NewB w0 S0 b := by
  rcases hb with hb | ⟨hm, _⟩
  · exact .inl hb
  · exact .inr hm

/-- The temporaries are. -/
def SimT (C : Cx) (w : World) (G : Gh) (tm : Nat → Option (Cond × SV)) (a : Act) : Prop :=
  ∀ t c s, tm t = some (c, s) → ∃ v, a.tmps[t]? = some v ∧ (∀ x ∈ c, x.1.lt C.N = true) ∧ s.lt C.N = true ∧ (if condB C.ρ c then RSV C w G s v else v = undef)

structure Sim (n : Nat) (w0 : World) (S0 : Base) (C : Cx) (G : Gh) (σ : St) (a : Act) (w : World) : Prop where
  m : SimM w0 S0 C G σ w
  t : SimT C w G σ.tm a
  sz : a.tmps.size = n
  defers : a.defers = S0.dfs

theorem condB_later {C C' : Cx} {w w' : World} {G G' : Gh} (h : Later C w G C' w' G') {c : Cond} (hc : ∀ x ∈ c, x.1.lt C.N = true) : condB C'.ρ c = condB C.ρ c := by
  unfold condB
  rw [Bool.eq_iff_iff, List.all_eq_true, List.all_eq_true]
  constructor
  · intro H x hx
    rw [← (h.den x.1 (hc x hx)).1]; exact H x hx
  · intro H x hx
    rw [(h.den x.1 (hc x hx)).1]; exact H x hx

theorem SC.lt_later {C C' : Cx} {w w' : World} {G G' : Gh} (h : Later C w G C' w' G') {c : SC} (hc : c.lt C.N = true) : c.lt C'.N = true := by
  cases c <;> simp only [SC.lt, Bool.and_eq_true] at hc ⊢
  all_goals first | trivial | exact (h.den _ hc).2 | exact ⟨(h.den _ hc.1).2, (h.den _ hc.2).2⟩
theorem SV.lt_later {C C' : Cx} {w w' : World} {G G' : Gh} (h : Later C w G C' w' G') {s : SV} (hs : s.lt C.N = true) : s.lt C'.N = true := by
  cases s <;> simp only [SV.lt, List.all_eq_true] at hs ⊢
  · exact SC.lt_later h hs
  · exact fun c hc => SC.lt_later h (hs c hc)
  · exact fun x hx c hc => SC.lt_later h (hs x hx c hc)

theorem SimT.later {C C' : Cx} {w w' : World} {G G' : Gh} {tm : Nat → Option (Cond × SV)} {a : Act} (h : Later C w G C' w' G') (ht : SimT C w G tm a) : SimT C' w' G' tm a := by
  intro t c s hs
  obtain ⟨v, h1, h2, h0, h3⟩ := ht t c s hs
  refine ⟨v, h1, fun x hx => (h.den _ (h2 x hx)).2, SV.lt_later h h0, ?_⟩
  rw [condB_later h h2]
  split
  · rename_i hc; rw [if_pos hc] at h3; exact h3.later h
  · rename_i hc; rw [if_neg hc] at h3; exact h3

/-- A temporary is set. -/
theorem SimT.put {C : Cx} {w : World} {G : Gh} {tm : Nat → Option (Cond × SV)} {a : Act} (ht : SimT C w G tm a) (d : Option Nat) (v : Value) (c : Cond) (s : SV)
    (hc : ∀ x ∈ c, x.1.lt C.N = true) (hs0 : s.lt C.N = true) (hv : if condB C.ρ c then RSV C w G s v else v = undef) (hsz : ∀ i, d = some i → i < a.tmps.size) :
    SimT C w G (match d with | some i => upd tm i (some (c, s)) | none => tm) (a.put d v) := by
  cases d with
  | none => exact ht
  | some i =>
    intro t c' s' hs
    by_cases hti : t = i
    · subst hti
      simp only [upd_same, Option.some.injEq, Prod.mk.injEq] at hs
      obtain ⟨rfl, rfl⟩ := hs
      exact ⟨v, by simp [Act.put, hsz t rfl], hc, hs0, hv⟩
    · simp only [upd_ne _ _ hti] at hs
      obtain ⟨u, h1, h2⟩ := ht t c' s' hs
      exact ⟨u, by simp only [Act.put]; rw [Array.getElem?_setIfInBounds_ne (Ne.symm hti)]; exact h1, h2⟩

end Go.Eng
/- What a new block, a store, a block that is written no more, and a call do to the symbolic state. -/
namespace Go.Eng
open Go Go.RowKit

def Cx.add (C : Cx) (p : Nat) : Cx := { C with M := fun i => C.M i ∨ i = p }

section
variable {C : Cx} {w w0 : World} {G : Gh} {S0 : Base} {σ : St} {p : Nat}

theorem Later.addM (C : Cx) (w : World) (G : Gh) (p : Nat) : Later C w G (C.add p) w G :=
  ⟨fun _ h => ⟨rfl, h⟩, fun _ h => .inl h, fun _ _ h => h, fun _ _ _ => rfl, fun _ _ => rfl, fun _ _ => rfl⟩

theorem OwnOk.rep {base : Nat} {g : Tag} {e : E} {T : TypeId} {t : Ty} (h : OwnOk C w base G g e T t) (hsz : 0 < t.cells.length) (hex : g.ex = false := by rfl) : Rep w G.S (G.τ g) (den C.ρ e) := by
  obtain ⟨xs, l, hd, hown, hS, hr⟩ := h.own
  rw [hd]
  obtain ⟨hl, hh⟩ := hown
  rcases hh with ⟨hv, hn⟩ | ⟨b, cap, cur, hv, hb, hg, hnc, hcm, hcs, htake⟩
  · have : l = [] := List.eq_nil_of_length_eq_zero hn
    subst this
    rw [hv]; exact .nil none 0
  · have hhas := h.has
    rw [hd] at hhas
    obtain ⟨l', hl', _, hx⟩ := has_list.1 hhas
    injection hl' with hl'; subst hl'
    by_cases hne : l = []
    · subst hne; rw [hv]; exact .nil _ cap
    · rw [hv]
      refine .list b 0 cap t.cells.length xs l hsz hne hnc hl (fun i hi => ?_) (fun i v hi => ?_) (fun i d hd' => ?_) hr
      · rw [Nat.zero_add]; exact (hS b (by rw [hv]; rfl) i).2 ⟨hex, hi⟩
      · rw [Nat.zero_add, cell_of_row w b i cur T (0, 0) hg]
        rw [← htake, List.getElem?_take] at hi
        split at hi
        · simpa using hi
        · cases hi
      · exact (has_cells (hx d (List.mem_of_getElem? hd'))).1

/-- An owned slice stays what it is where its block, and what its cells lean on, stay. -/
theorem OwnOk.later {C' : Cx} {w' : World} {G' : Gh} {base : Nat} {g : Tag} {e : E} {T : TypeId} {t : Ty} (hlat : Later C w G C' w' G') (h : OwnOk C w base G g e T t)
    (hblk : ∀ b, (G.τ g).ownBlock = some b → w'.heap[b]? = w.heap[b]?) (hS : ∀ b, (G.τ g).ownBlock = some b → ∀ o, G'.S b o → G.S b o) : OwnOk C' w' base G' g e T t := by
  obtain ⟨hd, hlt⟩ := hlat.den e h.lt
  have hτ := hlat.τ g h.m
  refine ⟨hlat.M _ h.m, hlt, hd ▸ h.has, ?_⟩
  obtain ⟨xs, l, hl, hown, hfoot, hr⟩ := h.own
  refine ⟨xs, l, hd.trans hl, ?_, ?_, fun i d j v c h1 h2 h3 => (hr i d j v c h1 h2 h3).keep hlat.S hlat.cell⟩
  · rw [hτ]
    refine ⟨hown.1, ?_⟩
    rcases hown.2 with hn | ⟨b, cap, cur, hv, hb, hg, rest⟩
    · exact .inl hn
    · exact .inr ⟨b, cap, cur, hv, hb, by rw [hblk b (by rw [hv]; rfl)]; exact hg, rest⟩
  · intro b hb o
    rw [hτ] at hb
    rw [← hfoot b hb o]
    exact ⟨hS b hb o, hlat.S b o⟩

theorem OwnOk.lt_heap {base : Nat} {g : Tag} {e : E} {T : TypeId} {t : Ty} (h : OwnOk C w base G g e T t) : ∀ b, (G.τ g).ownBlock = some b → base ≤ b ∧ b < w.heap.size := by
  obtain ⟨xs, l, _, hown, _⟩ := h.own
  exact hown.lt

theorem SimM.addM (h : SimM w0 S0 C G σ w) (p : Nat) : SimM w0 S0 (C.add p) G σ w where
  below := h.below
  foot0 := h.foot0
  keep := h.keep
  pin i b hi := ⟨.inl (h.pin i b hi).1, (h.pin i b hi).2⟩
  pinmu := h.pinmu
  footlt := h.footlt
  footnew := h.footnew
  boxM id x hx := .inl (h.boxM id x hx)
  box id ro cs hx := by
    obtain ⟨h1, h2, h3, h5⟩ := h.box id ro cs hx
    exact ⟨h1, h2, h3.later (Later.addM C w G p) rfl, h5⟩
  inj := h.inj
  own g e T t hx := (h.own g e T t hx).later (Later.addM C w G p) (fun _ _ => rfl) (fun _ _ _ h => h)
  ownnew := h.ownnew
  ownne := h.ownne
  ownbox := h.ownbox
  fresh := h.fresh
  wz := h.wz
theorem SimM.keep_later {C' : Cx} {w' : World} {G' : Gh} (h : SimM w0 S0 C G σ w) (hlat : Later C w G C' w' G') : ∀ b o, S0.foot b o → w'.cell? ⟨b, o, none⟩ = w0.cell? ⟨b, o, none⟩ :=
  fun b o hs => (hlat.cell b o (h.foot0 b o hs)).trans (h.keep b o hs)
theorem SimM.pin_later {C' : Cx} {w' : World} {G' : Gh} (h : SimM w0 S0 C G σ w) (hlat : Later C w G C' w' G') : ∀ i b, S0.pin i = some b → C'.M i ∧ G'.β i = b :=
  fun i b hi => ⟨hlat.M i (h.pin i b hi).1, (hlat.β i (h.pin i b hi).1).trans (h.pin i b hi).2⟩

theorem SimM.fresh_later {C' : Cx} {w' : World} {G' : Gh} (h : SimM w0 S0 C G σ w) (hlat : Later C w G C' w' G') (hτ : G'.τ = G.τ) (hh : ∀ b o, G.S b o → w'.heap[b]? = w.heap[b]?) (hnew : ∀ b o, G'.S b o → (∃ o', G.S b o') → G.S b o) :
    S0.fr → ∀ g, FrV (NewB w0 S0) w' G'.S (G'.τ g) := by
  intro hf g
  rw [hτ]
  exact (h.fresh hf g).mono hh hlat.S hnew

theorem SimM.base_le (h : SimM w0 S0 C G σ w) : w0.heap.size ≤ w.heap.size := h.below.size

theorem SimM.box_lt (h : SimM w0 S0 C G σ w) {id : Nat} {x : Bool × List SC} (hx : σ.hp id = some x) : G.β id < w.heap.size := by
  obtain ⟨_, _, h3, _⟩ := h.box id x.1 x.2 hx
  exact h3.lt

/-- A new block of the call's own. -/
theorem SimM.alloc (h : SimM w0 S0 C G σ w) (hp : ¬ C.M p) {cs : List SC} {vs : List Value} (hr : RSCs C w G cs vs) (hsc : cs.all SC.scalar = true) (T : TypeId) :
    Later C w G (C.add p) (w.alloc (.cells vs.toArray T)) { G with β := upd G.β p w.heap.size } ∧
    SimM w0 S0 (C.add p) { G with β := upd G.β p w.heap.size } { σ with hp := upd σ.hp p (some (false, cs)) } (w.alloc (.cells vs.toArray T)) := by
  have hlat : Later C w G (C.add p) (w.alloc (.cells vs.toArray T)) { G with β := upd G.β p w.heap.size } :=
    ⟨fun _ h => ⟨rfl, h⟩, fun _ h => .inl h, fun _ _ h => h, fun b o hs => World.cell?_alloc_lt w _ _ (h.footlt b o hs),
      fun i hi => upd_ne _ _ (fun e => hp (e ▸ hi)), fun _ _ => rfl⟩
  refine ⟨hlat, ?_⟩
  have hb := h.base_le
  refine ⟨h.below.alloc _, h.foot0, h.keep_later hlat, h.pin_later hlat, h.pinmu, fun b o hs => by simpa using Nat.lt_succ_of_lt (h.footlt b o hs), h.footnew, ?_, ?_, ?_, ?_, h.ownnew, ?_, ?_, h.fresh_later hlat rfl (fun b o hs => Below.heap_alloc w _ _ (h.footlt b o hs)) (fun _ _ h _ => h), fun hz b o hs => by
    obtain ⟨cur, T, hcur⟩ := h.wz hz b o hs
    exact ⟨cur, T, (Below.heap_alloc w _ _ (h.footlt b o hs)).trans hcur⟩⟩
  · intro id x hx
    by_cases hid : id = p
    · exact .inr hid
    · simp only [upd_ne _ _ hid] at hx; exact .inl (h.boxM id x hx)
  · intro id ro cs' hx
    by_cases hid : id = p
    · subst hid
      simp only [upd_same, Option.some.injEq, Prod.mk.injEq] at hx
      obtain ⟨rfl, rfl⟩ := hx
      refine ⟨by simp only [upd_same]; exact .inl hb, hsc, BlkOk.mk (vs := vs) (T := T) ?_ (hr.later hlat), ?_⟩
      · simp only [upd_same]; exact heap_alloc_new w _
      · simp only [upd_same, Bool.false_eq_true, if_false]
        intro o ho
        exact absurd (h.footlt _ _ ho) (by omega)
    · simp only [upd_ne _ _ hid] at hx
      obtain ⟨h1, h2, h3, h5⟩ := h.box id ro cs' hx
      simp only [upd_ne _ _ hid]
      exact ⟨h1, h2, h3.later hlat (Below.heap_alloc w _ _ (h.box_lt hx)), h5⟩
  · intro i j x y hi hj he
    by_cases hip : i = p
    · by_cases hjp : j = p
      · rw [hip, hjp]
      · subst hip
        simp only [upd_same, upd_ne _ _ hjp] at he hj
        have := h.box_lt hj
        omega
    · by_cases hjp : j = p
      · subst hjp
        simp only [upd_same, upd_ne _ _ hip] at he hi
        have := h.box_lt hi
        omega
      · simp only [upd_ne _ _ hip, upd_ne _ _ hjp] at he hi hj
        exact h.inj i j x y hi hj he
  · intro g e T' t hx
    have ho := h.own g e T' t hx
    exact ho.later hlat (fun b hb' => Below.heap_alloc w _ _ (ho.lt_heap b hb').2) (fun _ _ _ h => h)
  · exact h.ownne
  · intro g id x y b hx hy hb'
    by_cases hid : id = p
    · subst hid
      simp only [upd_same]
      have := ((h.own g x.1 x.2.1 x.2.2 hx).lt_heap b hb').2
      omega
    · simp only [upd_ne _ _ hid] at hy ⊢
      exact h.ownbox g id x y b hx hy hb'

/-- A store into a block of the call's own. -/
theorem SimM.setBox (h : SimM w0 S0 C G σ w) {id : Nat} {cs0 cs : List SC} (hid : σ.hp id = some (false, cs0)) (hm0 : mapOf cs0 = none) {vs : List Value} (hr : RSCs C w G cs vs) (hsc : cs.all SC.scalar = true) :
    Later C w G C (w.setRow (G.β id) vs.toArray) G ∧ SimM w0 S0 C G { σ with hp := upd σ.hp id (some (false, cs)) } (w.setRow (G.β id) vs.toArray) := by
  obtain ⟨hb, _, hblk, hns⟩ := h.box id false cs0 hid
  obtain ⟨vs0, T, hg, _⟩ := hblk.cells hm0
  simp only [Bool.false_eq_true, if_false] at hns
  have hother : ∀ k, k ≠ G.β id → (w.setRow (G.β id) vs.toArray).heap[k]? = w.heap[k]? := fun k hk => setRow_other w _ k _ hk
  have hlat : Later C w G C (w.setRow (G.β id) vs.toArray) G :=
    ⟨fun _ h => ⟨rfl, h⟩, fun _ h => h, fun _ _ h => h, fun b o hs => World.cell?_of_block (hother b (fun e => hns o (e ▸ hs))), fun _ _ => rfl, fun _ _ => rfl⟩
  refine ⟨hlat, ?_⟩
  refine ⟨?_, h.foot0, h.keep_later hlat, h.pin_later hlat, h.pinmu, fun b o hs => by simpa using h.footlt b o hs, h.footnew, ?_, ?_, ?_, ?_, h.ownnew, h.ownne, ?_, h.fresh_later hlat rfl (fun b o hs => hother b (fun e => hns o (e ▸ hs))) (fun _ _ h _ => h), fun hz b o hs => by
    obtain ⟨cur, T, hcur⟩ := h.wz hz b o hs
    exact ⟨cur, T, (hother b (fun e => hns o (e ▸ hs))).trans hcur⟩⟩
  · refine ⟨h.below.os, h.below.tape, h.below.output, by simpa using h.below.size, fun k hk hm => (hother k ?_).trans (h.below.block k hk hm)⟩
    rintro rfl
    rcases h.newB hb with hb | hb
    · omega
    · exact hm hb
  · intro i x hx
    by_cases hi : i = id
    · subst hi; exact h.boxM _ _ hid
    · simp only [upd_ne _ _ hi] at hx; exact h.boxM i x hx
  · intro i ro cs' hx
    by_cases hi : i = id
    · subst hi
      simp only [upd_same, Option.some.injEq, Prod.mk.injEq] at hx
      obtain ⟨rfl, rfl⟩ := hx
      refine ⟨hb, hsc, BlkOk.mk (vs := vs) (T := T) (setRow_heap w _ _ _ T _ hg) (hr.later hlat), ?_⟩
      simp only [Bool.false_eq_true, if_false]; exact hns
    · simp only [upd_ne _ _ hi] at hx
      obtain ⟨h1, h2, h3, h5⟩ := h.box i ro cs' hx
      exact ⟨h1, h2, h3.later hlat (hother _ (fun e => hi (h.inj _ _ _ _ hx hid e))), h5⟩
  · intro i j x y hi hj he
    have pres : ∀ i x, (upd σ.hp id (some (false, cs))) i = some x → ∃ x', σ.hp i = some x' := by
      intro i x hx
      by_cases hii : i = id
      · exact ⟨_, hii ▸ hid⟩
      · exact ⟨x, by rw [upd_ne _ _ hii] at hx; exact hx⟩
    obtain ⟨x', hx'⟩ := pres i x hi
    obtain ⟨y', hy'⟩ := pres j y hj
    exact h.inj i j x' y' hx' hy' he
  · intro g e T' t hx
    have ho := h.own g e T' t hx
    exact ho.later hlat (fun b hb' => hother b (h.ownbox g id _ _ b hx hid hb')) (fun _ _ _ h => h)
  · intro g i x y b hx hy hb'
    by_cases hii : i = id
    · subst hii; exact h.ownbox g i x _ b hx hid hb'
    · simp only [upd_ne _ _ hii] at hy; exact h.ownbox g i x y b hx hy hb'

/-- From now on the block is only read: readings may lean on it. -/
theorem SimM.freeze (h : SimM w0 S0 C G σ w) {id : Nat} {ro : Bool} {cs : List SC} (hid : σ.hp id = some (ro, cs)) (hm0 : mapOf cs = none) :
    ∃ G', Later C w G C w G' ∧ SimM w0 S0 C G' { σ with hp := upd σ.hp id (some (true, cs)) } w ∧ (∀ o, o < cs.length → G'.S (G.β id) o) ∧ G'.β = G.β ∧ G'.τ = G.τ := by
  obtain ⟨hb, hsc, hblk, hns⟩ := h.box id ro cs hid
  obtain ⟨vs0, T, hg, hr0⟩ := hblk.cells hm0
  have hlt := h.box_lt hid
  refine ⟨{ G with S := fun b o => G.S b o ∨ (b = G.β id ∧ o < cs.length) }, ?_, ?_, fun o ho => .inr ⟨rfl, ho⟩, rfl, rfl⟩
  all_goals have hlat : Later C w G C w { G with S := fun b o => G.S b o ∨ (b = G.β id ∧ o < cs.length) } :=
    ⟨fun _ h => ⟨rfl, h⟩, fun _ h => h, fun _ _ h => .inl h, fun _ _ _ => rfl, fun _ _ => rfl, fun _ _ => rfl⟩
  · exact hlat
  refine ⟨h.below, fun b o hs => .inl (h.foot0 b o hs), h.keep, h.pin, h.pinmu, ?_, ?_, ?_, ?_, ?_, ?_, h.ownnew, h.ownne, ?_, h.fresh_later hlat rfl (fun _ _ _ => rfl) ?_, fun hz b o hs => by
    rcases hs with hs | ⟨rfl, _⟩
    · exact h.wz hz b o hs
    · exact ⟨_, _, hg⟩⟩
  rotate_right
  · rintro b o (hs | ⟨rfl, ho⟩) ⟨o', ho'⟩
    · exact hs
    · cases ro with
      | true => simp only [if_true] at hns; exact hns o ho
      | false => simp only [Bool.false_eq_true, if_false] at hns; exact absurd ho' (hns o')
  · rintro b o (hs | ⟨rfl, _⟩)
    · exact h.footlt b o hs
    · exact hlt
  · rintro b o (hs | ⟨rfl, _⟩)
    · exact h.footnew b o hs
    · exact .inr (h.newB hb)
  · intro i x hx
    by_cases hi : i = id
    · subst hi; exact h.boxM _ _ hid
    · simp only [upd_ne _ _ hi] at hx; exact h.boxM i x hx
  · intro i ro' cs' hx
    by_cases hi : i = id
    · subst hi
      simp only [upd_same, Option.some.injEq, Prod.mk.injEq] at hx
      obtain ⟨rfl, rfl⟩ := hx
      exact ⟨hb, hsc, hblk.later hlat rfl, by simp only [if_true]; exact fun o ho => .inr ⟨trivial, ho⟩⟩
    · simp only [upd_ne _ _ hi] at hx
      obtain ⟨h1, h2, h3, h5⟩ := h.box i ro' cs' hx
      refine ⟨h1, h2, h3.later hlat rfl, ?_⟩
      cases ro' with
      | true => simp only [if_true] at h5 ⊢; exact fun o ho => .inl (h5 o ho)
      | false =>
        simp only [Bool.false_eq_true, if_false] at h5 ⊢
        rintro o (ho | ⟨he, _⟩)
        · exact h5 o ho
        · exact hi (h.inj _ _ _ _ hx hid he)
  · intro i j x y hi hj he
    have pres : ∀ i x, (upd σ.hp id (some (true, cs))) i = some x → ∃ x', σ.hp i = some x' := by
      intro i x hx
      by_cases hii : i = id
      · exact ⟨_, hii ▸ hid⟩
      · exact ⟨x, by rw [upd_ne _ _ hii] at hx; exact hx⟩
    obtain ⟨x', hx'⟩ := pres i x hi
    obtain ⟨y', hy'⟩ := pres j y hj
    exact h.inj i j x' y' hx' hy' he
  · intro g e T' t hx
    have ho := h.own g e T' t hx
    refine ho.later hlat (fun _ _ => rfl) (fun b hb' o hs => ?_)
    rcases hs with hs | ⟨rfl, _⟩
    · exact hs
    · exact absurd rfl (h.ownbox g id _ _ _ hx hid hb')
  · intro g i x y b hx hy hb'
    by_cases hii : i = id
    · subst hii; exact h.ownbox g i x _ b hx hid hb'
    · simp only [upd_ne _ _ hii] at hy; exact h.ownbox g i x y b hx hy hb'

/-- What an owned slice of its own kind holds turns: nothing else does. -/
theorem SimM.setX (h : SimM w0 S0 C G σ w) {g : Tag} {e e' : E} {T : TypeId} {t : Ty} (hg : σ.live g = some (e, T, t)) (hex : g.ex = true) {live' : Tag → Option (E × TypeId × Ty)}
    (hlive : ∀ g' x, live' g' = some x → (g' ≠ g ∧ σ.live g' = some x) ∨ (g' = g ∧ x = (e', T, t))) {b n cap : Nat} {cur row : Array Value} {l' : List D}
    (hτ : G.τ g = .slice (some ⟨b, 0, none⟩) n cap) (hcur : w.heap[b]? = some (.cells cur T (0, 0))) (hsz : row.size = cur.size)
    (he' : e'.lt C.N = true) (hden' : den C.ρ e' = .list l') (hlen : l'.length = n) (hhas : Has (.list t) (den C.ρ e'))
    (hr' : ∀ (i : Nat) d (j : Nat) v c, l'[i]? = some d → d.cells[j]? = some c → row[i * t.cells.length + j]? = some v → Rep w G.S v c) :
    Later C w G C (w.setRow b row) G ∧ SimM w0 S0 C G { σ with live := live' } (w.setRow b row) := by
  have hok := h.own g e T t hg
  obtain ⟨xs, l0, hd0, hown, hS, hr⟩ := hok.own
  have hob : (G.τ g).ownBlock = some b := by rw [hτ]; rfl
  have hnS : ∀ o, ¬ G.S b o := fun o hs => by
    have := (hS b hob o).1 hs
    rw [hex] at this; exact Bool.noConfusion this.1
  have hother : ∀ k, k ≠ b → (w.setRow b row).heap[k]? = w.heap[k]? := fun k hk => setRow_other w _ k _ hk
  have hlat : Later C w G C (w.setRow b row) G :=
    ⟨fun _ h => ⟨rfl, h⟩, fun _ h => h, fun _ _ h => h, fun b' o hs => World.cell?_of_block (hother b' (fun e => hnS o (e ▸ hs))), fun _ _ => rfl, fun _ _ => rfl⟩
  have hb : NewB w0 S0 b := h.ownnew g _ b hg hob
  have pres : ∀ g' x, live' g' = some x → ∃ y, σ.live g' = some y := by
    intro g' x hx
    rcases hlive g' x hx with ⟨_, h2⟩ | ⟨rfl, _⟩
    · exact ⟨_, h2⟩
    · exact ⟨_, hg⟩
  refine ⟨hlat, ?_⟩
  refine ⟨?_, h.foot0, h.keep_later hlat, h.pin_later hlat, h.pinmu, fun b o hs => by simpa using h.footlt b o hs, h.footnew, h.boxM, ?_, h.inj, ?_, ?_, ?_, ?_, h.fresh_later hlat rfl (fun b' o hs => hother b' (fun e => hnS o (e ▸ hs))) (fun _ _ h _ => h), fun hz b' o hs => by
    obtain ⟨cur', T', hcur'⟩ := h.wz hz b' o hs
    exact ⟨cur', T', (hother b' (fun e => hnS o (e ▸ hs))).trans hcur'⟩⟩
  · refine ⟨h.below.os, h.below.tape, h.below.output, by simpa using h.below.size, fun k hk hm => (hother k ?_).trans (h.below.block k hk hm)⟩
    rintro rfl
    rcases hb with hb | hb
    · omega
    · exact hm hb
  · intro i ro cs' hx
    obtain ⟨h1, h2, h3, h5⟩ := h.box i ro cs' hx
    exact ⟨h1, h2, h3.later hlat (hother _ (Ne.symm (h.ownbox g i _ _ b hg hx hob))), h5⟩
  · intro g' e1 T1 t1 hx
    rcases hlive g' _ hx with ⟨hne, hl⟩ | ⟨rfl, hl⟩
    · have ho := h.own g' e1 T1 t1 hl
      exact ho.later hlat (fun b' hb' => hother b' (fun e => hne (h.ownne g' g _ _ b' hl hg hb' (e ▸ hob)))) (fun _ _ _ h => h)
    · simp only [Prod.mk.injEq] at hl
      obtain ⟨rfl, rfl, rfl⟩ := hl
      obtain ⟨hxl, hh⟩ := hown
      rcases hh with ⟨hv, _⟩ | ⟨b', cap', cur', hv, hb', hgc, hnc, hcm, hcs, htake⟩
      · rw [hτ] at hv; cases hv
      · rw [hτ] at hv
        injection hv with hv1 hv2 hv3
        injection hv1 with hv1
        injection hv1 with hv1
        subst hv1; subst hv3
        rw [hcur] at hgc
        injection hgc with hgc
        injection hgc with hgc
        subst hgc
        have hnn : n ≤ cap := by omega
        have hle : n * t1.cells.length ≤ row.toList.length := by
          simp only [Array.length_toList]; rw [hsz, hcs]; exact Nat.mul_le_mul_right _ hnn
        have htl : (row.toList.take (n * t1.cells.length)).length = n * t1.cells.length := by rw [List.length_take]; omega
        refine ⟨hok.m, he', hhas, row.toList.take (n * t1.cells.length), l', hden', ⟨by rw [htl, hlen], .inr ⟨b, cap, row, by rw [hτ, hlen], hb', ?_, by omega, hcm, by rw [hsz]; exact hcs, by rw [hlen]⟩⟩, ?_, ?_⟩
        · exact setRow_heap w _ _ _ _ _ hcur
        · intro b1 hb1 o
          have : b1 = b := by rw [hob] at hb1; injection hb1 with hb1; exact hb1.symm
          subst this
          rw [hex]
          exact ⟨fun hs => (hnS o hs).elim, fun hs => Bool.noConfusion hs.1⟩
        · intro i d j v c h1 h2 h3
          refine (hr' i d j v c h1 h2 ?_).keep hlat.S hlat.cell
          rw [List.getElem?_take] at h3
          split at h3
          · simpa using h3
          · cases h3
  · intro g' x b' hx hb'
    obtain ⟨y, hy⟩ := pres g' x hx
    exact h.ownnew g' y b' hy hb'
  · intro g1 g2 x y b' hx hy hb1 hb2
    obtain ⟨x', hx'⟩ := pres g1 x hx
    obtain ⟨y', hy'⟩ := pres g2 y hy
    exact h.ownne g1 g2 x' y' b' hx' hy' hb1 hb2
  · intro g' id x y b' hx hy hb'
    obtain ⟨x', hx'⟩ := pres g' x hx
    exact h.ownbox g' id x' y b' hx' hy hb'

end
end Go.Eng
/- append, by where the new row lies; and what calls and appends do to the symbolic state. -/
namespace Go.Eng
open Go Go.RowKit

theorem addr_add (b o j : Nat) : (⟨b, o, none⟩ : Addr).add j = ⟨b, o + j, none⟩ := by unfold Addr.add; split <;> simp_all

section
variable {P : Program} (w : World)

theorem run_append_cases (base : Nat) (t ty e : TypeId) (i : TypeInfo) (z : Value) (size : Nat) (ht : P.underlying t = some (.slice e)) (hi : P.info? e = some i) (hz : i.zero = some z)
    (hsize : i.size = size) (hzs : z.cells.size = size)
    (v : Value) (n : Nat) (xs : List Value) (hown : w.ownsRow base e size v n xs)
    (A : Option Addr) (m c : Nat) (news : List Value) (hA : A = none → m = 0) (hl : news.length = m * size)
    (hnews : ∀ a, A = some a → ∀ (j : Nat) u, news[j]? = some u → w.cell? (a.add j) = some u) (h1 : ∀ u ∈ news, u.oneCell' = true)
    (h63 : n + m ≤ maxLen) (hbytes : (n + m) * i.bytes ≤ 140737488355328) (hbase : base ≤ w.heap.size) :
    ∃ v' w', (Builtin.append_ #[t, t] ty #[v, .slice A m c]).run P w = .ok v' w' ∧ w'.ownsRow base e size v' (n + m) (xs ++ news) ∧
      ((v'.ownBlock = v.ownBlock ∧ w.grownBy w' v.ownBlock) ∨ (v'.ownBlock = some w.heap.size ∧ w.grownBy w' none)) := by
  subst hsize
  have hsmall : n + m ≤ 9223372036854775807 := by simp only [maxLen] at h63; omega
  have hlen : (xs ++ news).length = (n + m) * i.size := by rw [List.length_append, hown.1, hl, Nat.add_mul]
  by_cases hm : m = 0
  · subst hm
    have hn : news = [] := List.eq_nil_of_length_eq_zero (by simpa using hl)
    subst hn
    refine ⟨v, w, ?_, by simpa using hown, .inl ⟨rfl, ⟨rfl, rfl, rfl, Nat.le_refl _, fun _ _ _ => rfl⟩⟩⟩
    rcases hown.2 with ⟨rfl, rfl⟩ | ⟨g, cap, cur, rfl, _, _, hnc, _⟩
    · cases A <;> simp [Builtin.append_, run_underlying ht, sizeOf, typeInfo, hi, Builtin.lenOf, Builtin.firstCells, loadCells, loadCellsFrom]
    · cases A <;> simp [Builtin.append_, run_underlying ht, sizeOf, typeInfo, hi, Builtin.lenOf, Builtin.firstCells, hnc, storeCells, loadCells, loadCellsFrom]
  · obtain ⟨a, rfl⟩ : ∃ a, A = some a := by
      cases A with
      | none => exact absurd (hA rfl) hm
      | some a => exact ⟨a, rfl⟩
    have hnews := hnews a rfl
    have grown : ∀ (old : Nat), old < n + m →
        (w.drew.alloc (.cells (xs.toArray ++ news.toArray ++ Builtin.zeroCells z.cells (grownCap w (n + m) old e - (n + m))) e)).ownsRow base e i.size
          (.slice (some ⟨w.heap.size, 0, none⟩) (n + m) (grownCap w (n + m) old e)) (n + m) (xs ++ news) ∧
        w.grownBy (w.drew.alloc (.cells (xs.toArray ++ news.toArray ++ Builtin.zeroCells z.cells (grownCap w (n + m) old e - (n + m))) e)) none := by
      intro old ho
      have hge := grownCap_ge w (n + m) old e
      have hcm : grownCap w (n + m) old e ≤ maxLen := grownCap_le_maxLen w (n + m) old e h63
      refine ⟨⟨hlen, .inr ⟨w.heap.size, _, _, rfl, hbase, heap_alloc_new w.drew _, hge, hcm, ?_, ?_⟩⟩, ⟨rfl, rfl, rfl, by simp, fun k hk _ => heap_alloc_old w.drew _ k hk⟩⟩
      · simp only [Array.size_append, List.size_toArray, size_zeroCells, hzs, hown.1, hl, ← Nat.add_mul]
        congr 1
        omega
      · simp only [Array.toList_append, List.append_assoc]
        rw [← List.append_assoc, ← hlen]
        exact List.take_left
    rcases hown.2 with ⟨rfl, rfl⟩ | ⟨g, cap, cur, rfl, hbg, hg, hnc, hcm, hcs, htake⟩
    · have hx : xs = [] := List.eq_nil_of_length_eq_zero (by simpa using hown.1)
      subst hx
      have hr := run_append_nil (P := P) w t ty e i z ht hi hz a m c news hl hnews (by omega) (by omega) (by have hb := hbytes; simp only [Nat.zero_add] at hb; omega)
      have hgr := grown 0 (by omega)
      simp only [Nat.zero_add, List.nil_append, Array.empty_append] at hgr ⊢
      exact ⟨_, _, hr, hgr.1, .inr ⟨rfl, hgr.2⟩⟩
    · by_cases hroom : n + m ≤ cap
      · have hfit : n * i.size + news.length ≤ cur.size := by rw [hl, hcs, ← Nat.add_mul]; exact Nat.mul_le_mul_right _ hroom
        have hr := run_append_room (P := P) w t ty e i ht hi g n cap cur hg a m c news hl hnews h1 hroom hfit
        refine ⟨_, _, hr, ⟨hlen, .inr ⟨g, cap, _, rfl, hbg, setRow_heap w g cur _ e _ hg, hroom, hcm, ?_, ?_⟩⟩, .inl ⟨rfl, ⟨rfl, rfl, rfl, by simp, fun k _ hk => setRow_other w g k _ (fun e => hk (by simp [Value.ownBlock, e]))⟩⟩⟩
        · simp only [List.size_toArray, List.length_append, List.length_take, List.length_drop, Array.length_toList]
          omega
        · rw [htake, ← hlen]
          exact List.take_left
      · have holds : ∀ (j : Nat) u, xs[j]? = some u → w.cell? ((⟨g, 0, none⟩ : Addr).add j) = some u := hown.cells (g := g) rfl
        have hr := run_append_grow (P := P) w t ty e i z ht hi hz ⟨g, 0, none⟩ n cap xs hown.1 holds a m c news hl hnews (by omega) (by omega) (growslice_fits (by omega) hbytes)
        have hgr := grown cap (by omega)
        exact ⟨_, _, hr, hgr.1, .inr ⟨rfl, hgr.2⟩⟩
end

section
variable {C : Cx} {w w' w0 : World} {G : Gh} {S0 : Base} {σ : St} {p : Nat}

theorem OwnOk.mono {base base' : Nat} {g : Tag} {e : E} {T : TypeId} {t : Ty} (h : OwnOk C w base G g e T t) (hb : base' ≤ base) : OwnOk C w base' G g e T t := by
  obtain ⟨xs, l, hd, hown, hrest⟩ := h.own
  refine ⟨h.m, h.lt, h.has, xs, l, hd, ⟨hown.1, ?_⟩, hrest⟩
  rcases hown.2 with hn | ⟨b, cap, cur, hv, hbb, hg⟩
  · exact .inl hn
  · exact .inr ⟨b, cap, cur, hv, by omega, hg⟩

/-- Behind a call (or whatever leaves all blocks as they were): new blocks, of which some are owned slices. -/
theorem SimM.called (h : SimM w0 S0 C G σ w) (hp : ¬ C.M p) {S' : Foot} {τ' : Nat → Value} (hbel : Below w.heap.size w w') (hS : ∀ b o, G.S b o → S' b o) (hlt : ∀ b o, S' b o → b < w'.heap.size)
    (hnew : ∀ b o, S' b o → G.S b o ∨ w.heap.size ≤ b) (live' : Tag → Option (E × TypeId × Ty)) (G' : Gh)
    (hG : G' = { S := S', β := G.β, τ := fun g => if g.1 = p then τ' g.2 else G.τ g })
    (hlive : ∀ g x, live' g = some x → (g.1 ≠ p ∧ σ.live g = some x) ∨ (g.1 = p ∧ OwnOk (C.add p) w' w.heap.size G' g x.1 x.2.1 x.2.2))
    (hdis : ∀ j k x y b, live' (p, j) = some x → live' (p, k) = some y → (τ' j).ownBlock = some b → (τ' k).ownBlock = some b → j = k)
    (hfr : S0.fr → ∀ j, FrV (NewB w0 S0) w' S' (τ' j)) (hnw : ¬ S0.wz) :
    Later C w G (C.add p) w' G' ∧ SimM w0 S0 (C.add p) G' { σ with live := live' } w' := by
  subst hG
  have hblk : ∀ k, k < w.heap.size → w'.heap[k]? = w.heap[k]? := hbel.block
  have hlat : Later C w G (C.add p) w' { S := S', β := G.β, τ := fun g => if g.1 = p then τ' g.2 else G.τ g } :=
    ⟨fun _ h => ⟨rfl, h⟩, fun _ h => .inl h, hS, fun b o hs => World.cell?_of_block (hblk b (h.footlt b o hs)), fun _ _ => rfl, fun g hg => if_neg (fun e => hp (by rw [← e]; exact hg))⟩
  refine ⟨hlat, ?_⟩
  have hb := h.base_le
  refine ⟨h.below.trans (.of hbel), fun b o hs => hS b o (h.foot0 b o hs), h.keep_later hlat, h.pin_later hlat, h.pinmu, hlt, ?_, fun id x hx => .inl (h.boxM id x hx), ?_, h.inj, ?_, ?_, ?_, ?_, fun hf g => ?_, fun h => absurd h hnw⟩
  rotate_right
  · show FrV (NewB w0 S0) w' S' (if g.1 = p then τ' g.2 else G.τ g)
    split
    · exact hfr hf g.2
    · exact (h.fresh hf g).mono (fun b o hs => hblk b (h.footlt b o hs)) hS (fun b o hs ⟨o', ho'⟩ => by
        rcases hnew b o hs with h6 | h6
        · exact h6
        · have := h.footlt _ _ ho'; omega)
  · intro b o hs
    rcases hnew b o hs with h1 | h1
    · exact h.footnew b o h1
    · exact .inr (.inl (by omega))
  · intro id ro cs hx
    obtain ⟨h1, h2, h3, h5⟩ := h.box id ro cs hx
    have hlt := h.box_lt hx
    refine ⟨h1, h2, h3.later hlat (hblk _ hlt), ?_⟩
    cases ro with
    | true => simp only [if_true] at h5 ⊢; exact fun o ho => hS _ _ (h5 o ho)
    | false =>
      simp only [Bool.false_eq_true, if_false] at h5 ⊢
      intro o ho
      rcases hnew _ _ ho with h6 | h6
      · exact h5 o h6
      · omega
  · intro g e T t hx
    rcases hlive g _ hx with ⟨h1, h2⟩ | ⟨h1, h2⟩
    · have ho := h.own g e T t h2
      refine ho.later hlat (fun b hb' => hblk b (ho.lt_heap b hb').2) (fun b hb' o hs => ?_)
      rcases hnew b o hs with h6 | h6
      · exact h6
      · have := (ho.lt_heap b hb').2; omega
    · exact h2.mono (Nat.zero_le _)
  · intro g x b hx hgb
    rcases hlive g _ hx with ⟨h1, h2⟩ | ⟨h1, h2⟩
    · simp only [if_neg h1] at hgb
      exact h.ownnew g x b h2 hgb
    · exact .inl (by have := (h2.lt_heap b hgb).1; omega)
  · intro g g' x y b hx hy hgb hgb'
    rcases hlive g _ hx with ⟨h1, h2⟩ | ⟨h1, h2⟩ <;> rcases hlive g' _ hy with ⟨h3, h4⟩ | ⟨h3, h4⟩
    · simp only [if_neg h1] at hgb; simp only [if_neg h3] at hgb'
      exact h.ownne g g' x y b h2 h4 hgb hgb'
    · simp only [if_neg h1] at hgb
      have h5 := ((h.own g x.1 x.2.1 x.2.2 h2).lt_heap b hgb).2
      have h6 := (h4.lt_heap b hgb').1
      omega
    · simp only [if_neg h3] at hgb'
      have h5 := ((h.own g' y.1 y.2.1 y.2.2 h4).lt_heap b hgb').2
      have h6 := (h2.lt_heap b hgb).1
      omega
    · obtain ⟨g1, j⟩ := g
      obtain ⟨g2, k⟩ := g'
      simp only at h1 h3
      subst h1; subst h3
      simp only [if_true] at hgb hgb'
      rw [hdis j k x y b hx hy hgb hgb']
  · intro g id x y b hx hy hgb
    rcases hlive g _ hx with ⟨h1, h2⟩ | ⟨h1, h2⟩
    · simp only [if_neg h1] at hgb
      exact h.ownbox g id x y b h2 hy hgb
    · have h6 := (h2.lt_heap b hgb).1
      have h7 := h.box_lt hy
      intro he
      have h8 : b = G.β id := he
      omega

/-- Behind an append onto an owned slice, or onto nil: the new slice is owned, the old one no more. -/
theorem SimM.appended (h : SimM w0 S0 C G σ w) (hp : ¬ C.M p) (q : Nat) {v v' : Value} {T : TypeId} {t : Ty} {n m : Nat} {xs news : List Value} {l l2 : List D} {e2 : E}
    (hsz : 0 < t.cells.length) (hln : l.length = n) (hlm : l2.length = m)
    (hxr : ∀ (i : Nat) d (j : Nat) u c, l[i]? = some d → d.cells[j]? = some c → xs[i * t.cells.length + j]? = some u → Rep w G.S u c)
    (hnr : ∀ (i : Nat) d (j : Nat) u c, l2[i]? = some d → d.cells[j]? = some c → news[i * t.cells.length + j]? = some u → Rep w G.S u c)
    (hxw : ∀ d ∈ l, d.cells.length = t.cells.length)
    (hx : xs.length = n * t.cells.length) (hown : w'.ownsRow 0 T t.cells.length v' (n + m) (xs ++ news))
    (hcase : (v'.ownBlock = v.ownBlock ∧ w.grownBy w' v.ownBlock) ∨ (v'.ownBlock = some w.heap.size ∧ w.grownBy w' none))
    (live' : Tag → Option (E × TypeId × Ty))
    (hold : v = .slice none 0 0 ∨ ∃ g x, σ.live g = some x ∧ G.τ g = v ∧ live' g = none ∧ ∀ b, v.ownBlock = some b → (∀ o, G.S b o ↔ Tag.ex (p, q) = false ∧ o < xs.length) ∧ ∀ o u, xs[o]? = some u → w.cell? ⟨b, o, none⟩ = some u)
    (he : e2.lt C.N = true) (hden : den C.ρ e2 = .list (l ++ l2)) (hhas : Has (.list t) (den C.ρ e2))
    (hlive : ∀ g x, live' g = some x → (g ≠ (p, q) ∧ σ.live g = some x) ∨ (g = (p, q) ∧ x = (e2, T, t)))
    (hfrn : S0.fr → Tag.ex (p, q) = false ∧ (v = .slice none 0 0 → ∀ u ∈ xs, ValIn (FrB (NewB w0 S0) w G.S) u) ∧ ∀ u ∈ news, ValIn (FrB (NewB w0 S0) w G.S) u) (hnw : ¬ S0.wz) :
    ∃ G', Later C w G (C.add p) w' G' ∧ SimM w0 S0 (C.add p) G' { σ with live := live' } w' ∧ G'.τ (p, q) = v' := by
  have hle := h.base_le
  have hlenx : (xs ++ news).length = (n + m) * t.cells.length := hown.1
  -- whatever of the old readings stands: it still stands
  have hcell : ∀ b o, G.S b o → w'.cell? ⟨b, o, none⟩ = w.cell? ⟨b, o, none⟩ := by
    intro b o hs
    have hbl := h.footlt b o hs
    rcases hcase with ⟨h1, h2⟩ | ⟨h1, h2⟩
    · by_cases hbv : some b = v.ownBlock
      · rcases hold with hv | ⟨g, x, hg, hgv, _, hfoot⟩
        · rw [hv] at hbv; cases hbv
        · obtain ⟨hf, hc⟩ := hfoot b hbv.symm
          have ho := ((hf o).1 hs).2
          have hxo : xs[o]? = some xs[o] := List.getElem?_eq_getElem ho
          have h3 := hown.cells (g := b) (h1.trans hbv.symm) o xs[o] (by rw [List.getElem?_append_left ho]; exact hxo)
          rw [addr_add, Nat.zero_add] at h3
          rw [h3, hc o _ hxo]
      · exact World.cell?_of_block (h2.block b hbl hbv)
    · exact World.cell?_of_block (h2.block b hbl (by simp))
  -- a block that is neither is as it was
  have hblk : ∀ b, b < w.heap.size → v.ownBlock ≠ some b → w'.heap[b]? = w.heap[b]? := by
    intro b hb hne
    rcases hcase with ⟨_, h2⟩ | ⟨_, h2⟩
    · exact h2.block b hb (fun e => hne e.symm)
    · exact h2.block b hb (by simp)
  have hvb : ∀ b, v.ownBlock = some b → NewB w0 S0 b ∧ b < w.heap.size := by
    intro b hb
    rcases hold with hv | ⟨g, x, hg, hgv, _, _⟩
    · rw [hv] at hb; cases hb
    · rw [← hgv] at hb; exact ⟨h.ownnew g x b hg hb, ((h.own g x.1 x.2.1 x.2.2 hg).lt_heap b hb).2⟩
  have hv'n : ∀ b, v'.ownBlock = some b → NewB w0 S0 b := by
    intro b hb
    rcases hcase with ⟨h1, _⟩ | ⟨h1, _⟩
    · exact (hvb b (h1 ▸ hb)).1
    · rw [h1] at hb; injection hb with hb; exact .inl (by omega)
  have hv'b : ∀ b, v'.ownBlock = some b → (v.ownBlock = some b ∨ b = w.heap.size) := by
    intro b hb
    rcases hcase with ⟨h1, _⟩ | ⟨h1, _⟩
    · exact .inl (h1 ▸ hb)
    · rw [h1] at hb; injection hb with hb; exact .inr hb.symm
  have hsize : w.heap.size ≤ w'.heap.size := by rcases hcase with ⟨_, h2⟩ | ⟨_, h2⟩ <;> exact h2.size
  let G' : Gh := { S := fun b o => G.S b o ∨ (Tag.ex (p, q) = false ∧ v'.ownBlock = some b ∧ o < (xs ++ news).length), β := G.β, τ := fun g => if g.1 = p then v' else G.τ g }
  have hτ : ∀ g : Tag, C.M g.1 → (if g.1 = p then v' else G.τ g) = G.τ g := fun g hg => if_neg (fun e => hp (by rw [← e]; exact hg))
  have hlat : Later C w G (C.add p) w' G' := ⟨fun _ h => ⟨rfl, h⟩, fun _ h => .inl h, fun _ _ h => .inl h, hcell, fun _ _ => rfl, hτ⟩
  refine ⟨G', hlat, ?_, if_pos rfl⟩
  refine ⟨?_, fun b o hs => .inl (h.foot0 b o hs), h.keep_later hlat, h.pin_later hlat, h.pinmu, ?_, ?_, fun id x hx => .inl (h.boxM id x hx), ?_, h.inj, ?_, ?_, ?_, ?_, fun hf g => ?_, fun h => absurd h hnw⟩
  rotate_right
  · obtain ⟨hq, hnil, hnews⟩ := hfrn hf
    · have hxsv : ∀ (o : Nat) u, xs[o]? = some u → ValIn (FrB (NewB w0 S0) w G.S) u := by
        intro o u hu
        have hol : o < xs.length := (List.getElem?_eq_some_iff.1 hu).1
        rcases hold with hv | ⟨g1, x1, hg1, hgv, _, hfoot⟩
        · exact hnil hv u (List.mem_of_getElem? hu)
        · have hok1 := h.own g1 x1.1 x1.2.1 x1.2.2 hg1
          obtain ⟨xs0, l0, _, hown0, hS0, _⟩ := hok1.own
          rcases hown0.2 with ⟨hn, _⟩ | ⟨b1, cap1, cur1, hv1, hbb, _⟩
          · exact hnil (hgv ▸ hn) u (List.mem_of_getElem? hu)
          · have hob1 : v.ownBlock = some b1 := by rw [← hgv, hv1]; rfl
            obtain ⟨hf1, hc1⟩ := hfoot b1 hob1
            have hS1 : G.S b1 o := (hf1 o).2 ⟨hq, hol⟩
            have h3 := (hS0 b1 (by rw [hv1]; rfl) o).1 hS1
            have h4 := h.fresh hf g1 _ _ _ hv1
            rw [hv1] at h4
            rcases h4 with h4 | ⟨b2, o2, h5, h6⟩
            · have h7 : xs0.length = l0.length * _ := hown0.1
              rw [h4, Nat.zero_mul] at h7
              omega
            · simp only [Option.some.injEq, Addr.mk.injEq] at h5
              obtain ⟨rfl, _⟩ := h5
              exact (FrB.set _ _ _ b1 h6).2.2.2 o u hS1 (hc1 o u hu)
      have hX : FrSet (NewB w0 S0) w' G'.S (fun b => FrB (NewB w0 S0) w G.S b ∨ (v'.ownBlock = some b ∧ 0 < (xs ++ news).length)) := by
        intro b hb
        by_cases hvb' : v'.ownBlock = some b
        · have hpos : 0 < (xs ++ news).length ∨ FrB (NewB w0 S0) w G.S b := hb.elim .inr (fun h => .inl h.2)
          have hpos2 : ∃ o, G'.S b o := by
            rcases hpos with h1 | h1
            · exact ⟨0, .inr ⟨hq, hvb', h1⟩⟩
            · obtain ⟨o, ho⟩ := (FrB.set _ _ _ b h1).2.1
              exact ⟨o, .inl ho⟩
          have hcz : ∃ cur T, w'.heap[b]? = some (.cells cur T (0, 0)) := by
            rcases hown.2 with ⟨hv, _⟩ | ⟨b2, cap, cur, hv, _, hg2, _⟩
            · rw [hv] at hvb'; cases hvb'
            · rw [hv] at hvb'
              simp only [Value.ownBlock, Option.some.injEq] at hvb'
              subst hvb'
              exact ⟨_, _, hg2⟩
          refine ⟨hv'n b hvb', hpos2, hcz, fun o u hs hu => ?_⟩
          have main : o < (xs ++ news).length → ValIn (fun b => FrB (NewB w0 S0) w G.S b ∨ (v'.ownBlock = some b ∧ 0 < (xs ++ news).length)) u := by
            intro ho
            have h3 := hown.cells (g := b) hvb' o (xs ++ news)[o] (List.getElem?_eq_getElem ho)
            rw [addr_add, Nat.zero_add, hu] at h3
            injection h3 with h3
            have h4 : (xs ++ news)[o]? = some u := by rw [h3]; exact List.getElem?_eq_getElem ho
            by_cases hox : o < xs.length
            · rw [List.getElem?_append_left hox] at h4
              exact (hxsv o u h4).mono fun b hb => .inl hb
            · rw [List.getElem?_append_right (by omega)] at h4
              exact (hnews u (List.mem_of_getElem? h4)).mono fun b hb => .inl hb
          rcases hs with hs | ⟨_, _, hs⟩
          · rcases hv'b b hvb' with h6 | h6
            · rcases hold with hv | ⟨g', x', hg', hgv, hdead, hfoot⟩
              · rw [hv] at h6; cases h6
              · have := ((hfoot b h6).1 o).1 hs
                exact main (by rw [List.length_append]; omega)
            · have := h.footlt b o hs; omega
          · exact main hs
        · rcases hb with hb | ⟨hb, _⟩
          · obtain ⟨h1, ⟨o1, h2⟩, ⟨cur0, T0, h4⟩, h3⟩ := FrB.set _ _ _ b hb
            have hsame : w'.heap[b]? = w.heap[b]? := by
              rcases hcase with ⟨h5, h6⟩ | ⟨_, h6⟩
              · exact h6.block b (h.footlt b o1 h2) (fun e => hvb' (h5.trans e.symm))
              · exact h6.block b (h.footlt b o1 h2) (by simp)
            refine ⟨h1, ⟨o1, .inl h2⟩, ⟨cur0, T0, hsame.trans h4⟩, fun o u hs hu => ?_⟩
            rcases hs with hs | ⟨_, hs, _⟩
            · exact (h3 o u hs (by rw [← hcell b o hs]; exact hu)).mono fun b hb => .inl hb
            · exact absurd hs hvb'
          · exact absurd hb hvb'
      show FrV (NewB w0 S0) w' G'.S (if g.1 = p then v' else G.τ g)
      split
      · intro a0 n0 cap0 hv0
        rcases hown.2 with ⟨hv, _⟩ | ⟨b, cap, cur, hv, _⟩
        · rw [hv]; exact .inl rfl
        · rw [hv]
          by_cases h0 : n + m = 0
          · exact .inl h0
          · refine .inr ⟨b, 0, rfl, _, hX, .inr ⟨by rw [hv]; rfl, ?_⟩⟩
            rw [hlenx]
            exact Nat.mul_pos (by omega) hsz
      · exact fun a0 n0 cap0 hv0 => (h.fresh hf g a0 n0 cap0 hv0).mono fun b hb => ⟨_, hX, .inl hb⟩
  · rcases hcase with ⟨_, h2⟩ | ⟨_, h2⟩
    · refine ⟨h2.os.trans h.below.os, h2.tape.trans h.below.tape, h2.output.trans h.below.output, Nat.le_trans h.below.size h2.size, fun k hk hm => (h2.block k (by omega) (fun e => ?_)).trans (h.below.block k hk hm)⟩
      rcases (hvb k e.symm).1 with h3 | h3
      · omega
      · exact hm h3
    · exact h.below.trans ⟨h2.os, h2.tape, h2.output, h2.size, fun k hk _ => h2.block k hk (by simp)⟩
  · rintro b o (hs | ⟨_, hb, _⟩)
    · have := h.footlt b o hs; omega
    · exact (hown.lt b hb).2
  · rintro b o (hs | ⟨_, hb, _⟩)
    · exact h.footnew b o hs
    · exact .inr (hv'n b hb)
  · intro id ro cs hx'
    obtain ⟨h1, h2, h3, h5⟩ := h.box id ro cs hx'
    have hlt := h.box_lt hx'
    have hne : ∀ b, v.ownBlock = some b → b ≠ G.β id := by
      intro b hb
      rcases hold with hv | ⟨g, x, hg, hgv, _, _⟩
      · rw [hv] at hb; cases hb
      · rw [← hgv] at hb; exact h.ownbox g id x _ b hg hx' hb
    refine ⟨h1, h2, h3.later hlat (hblk _ hlt (fun e => hne _ e rfl)), ?_⟩
    cases ro with
    | true => simp only [if_true] at h5 ⊢; exact fun o ho => .inl (h5 o ho)
    | false =>
      simp only [Bool.false_eq_true, if_false] at h5 ⊢
      rintro o (ho | ⟨_, hb, _⟩)
      · exact h5 o ho
      · rcases hv'b _ hb with h6 | h6
        · exact hne _ h6 rfl
        · have h7 : G.β id = w.heap.size := h6
          omega
  · intro g e T' t' hx'
    rcases hlive g _ hx' with ⟨h1, h2⟩ | ⟨h1, h2⟩
    · have ho := h.own g e T' t' h2
      have hgne : ∀ b, (G.τ g).ownBlock = some b → v.ownBlock ≠ some b := by
        intro b hb hvb'
        rcases hold with hv | ⟨g', x, hg', hgv, hdead, _⟩
        · rw [hv] at hvb'; cases hvb'
        · rw [← hgv] at hvb'
          have := h.ownne g g' _ x b h2 hg' hb hvb'
          have hx2 : live' g = some (e, T', t') := hx'
          rw [this, hdead] at hx2; cases hx2
      refine ho.later hlat (fun b hb => hblk b (ho.lt_heap b hb).2 (hgne b hb)) (fun b hb o hs => ?_)
      rcases hs with hs | ⟨_, hs, _⟩
      · exact hs
      · rcases hv'b b hs with h6 | h6
        · exact absurd h6 (hgne b hb)
        · have := (ho.lt_heap b hb).2; omega
    · subst h1
      simp only [Prod.mk.injEq] at h2
      obtain ⟨rfl, rfl, rfl⟩ := h2
      refine ⟨.inr rfl, he, hhas, xs ++ news, l ++ l2, hden, ?_, ?_, ?_⟩
      · show w'.ownsRow 0 T' t'.cells.length (if p = p then v' else _) _ _
        rw [if_pos rfl, List.length_append, hln, hlm]; exact hown
      · intro b hb o
        have hb' : v'.ownBlock = some b := by simpa [G'] using hb
        constructor
        · rintro (hs | ⟨hq, _, hs⟩)
          · rcases hv'b b hb' with h6 | h6
            · rcases hold with hv | ⟨g', x, hg', hgv, hdead, hfoot⟩
              · rw [hv] at h6; cases h6
              · have := ((hfoot b h6).1 o).1 hs
                rw [List.length_append]; exact ⟨this.1, by omega⟩
            · have := h.footlt b o hs; omega
          · exact ⟨hq, hs⟩
        · intro ho; exact .inr ⟨ho.1, hb', ho.2⟩
      · intro i d j u c h1 h2 h3
        by_cases hi : i < l.length
        · rw [List.getElem?_append_left hi] at h1
          have hj : j < d.cells.length := (List.getElem?_eq_some_iff.1 h2).1
          have hw := hxw d (List.mem_of_getElem? h1)
          have hlt : i * t'.cells.length + j < xs.length := by
            rw [hx, ← hln]
            have : (i + 1) * t'.cells.length ≤ l.length * t'.cells.length := Nat.mul_le_mul_right _ hi
            rw [Nat.add_mul] at this
            omega
          rw [List.getElem?_append_left hlt] at h3
          exact (hxr i d j u c h1 h2 h3).keep hlat.S hlat.cell
        · rw [List.getElem?_append_right (by omega)] at h1
          have hge : xs.length ≤ i * t'.cells.length + j := by
            rw [hx, ← hln]
            exact Nat.le_trans (Nat.mul_le_mul_right _ (by omega)) (Nat.le_add_right _ _)
          rw [List.getElem?_append_right hge] at h3
          refine (hnr (i - l.length) d j u c h1 h2 ?_).keep hlat.S hlat.cell
          rw [← h3, hx, ← hln, Nat.sub_mul]
          congr 1
          have : l.length * t'.cells.length ≤ i * t'.cells.length := Nat.mul_le_mul_right _ (by omega)
          omega
  · intro g x b hx' hgb
    rcases hlive g _ hx' with ⟨h1, h2⟩ | ⟨h1, h2⟩
    · have h3 : g.1 ≠ p := fun hgp => hp (hgp ▸ (h.own g x.1 x.2.1 x.2.2 h2).m)
      simp only [G', if_neg h3] at hgb
      exact h.ownnew g x b h2 hgb
    · subst h1
      simp only [G', if_true] at hgb
      exact hv'n b hgb
  · intro g g' x y b hx' hy' hgb hgb'
    have key : ∀ g x, g.1 ≠ p ∨ g ≠ (p, q) → live' g = some x → σ.live g = some x := by
      intro g x hne hl
      rcases hlive g _ hl with ⟨_, h2⟩ | ⟨h1, _⟩
      · exact h2
      · subst h1; rcases hne with hne | hne <;> exact absurd rfl hne
    have newb : ∀ g x, g ≠ (p, q) → σ.live g = some x → live' g = some x → g.1 ≠ p := by
      intro g x _ hs _ hgp
      exact hp (hgp ▸ (h.own g x.1 x.2.1 x.2.2 hs).m)
    have cross : ∀ g x, g ≠ (p, q) → live' g = some x → (G.τ g).ownBlock = some b → v'.ownBlock = some b → False := by
      intro g x hne hl hb hb'
      have hs := key g x (.inr hne) hl
      have ho := h.own g x.1 x.2.1 x.2.2 hs
      rcases hv'b b hb' with h6 | h6
      · rcases hold with hv | ⟨g', x', hg', hgv, hdead, _⟩
        · rw [hv] at h6; cases h6
        · rw [← hgv] at h6
          have := h.ownne g g' _ x' b hs hg' hb h6
          rw [this, hdead] at hl; cases hl
      · have := (ho.lt_heap b hb).2; omega
    by_cases h1 : g = (p, q) <;> by_cases h2 : g' = (p, q)
    · rw [h1, h2]
    · subst h1
      have h3 := newb g' y h2 (key g' y (.inr h2) hy') hy'
      simp only [G', if_true, if_neg h3] at hgb hgb'
      exact (cross g' y h2 hy' hgb' hgb).elim
    · subst h2
      have h3 := newb g x h1 (key g x (.inr h1) hx') hx'
      simp only [G', if_true, if_neg h3] at hgb hgb'
      exact (cross g x h1 hx' hgb hgb').elim
    · have h3 := newb g x h1 (key g x (.inr h1) hx') hx'
      have h4 := newb g' y h2 (key g' y (.inr h2) hy') hy'
      simp only [G', if_neg h3, if_neg h4] at hgb hgb'
      exact h.ownne g g' x y b (key g x (.inr h1) hx') (key g' y (.inr h2) hy') hgb hgb'
  · intro g id x y b hx' hy' hgb
    rcases hlive g _ hx' with ⟨h1, h2⟩ | ⟨h1, h2⟩
    · have h3 : g.1 ≠ p := fun hgp => hp (hgp ▸ (h.own g x.1 x.2.1 x.2.2 h2).m)
      simp only [G', if_neg h3] at hgb
      exact h.ownbox g id x y b h2 hy' hgb
    · subst h1
      simp only [G', if_true] at hgb
      rcases hv'b b hgb with h6 | h6
      · rcases hold with hv | ⟨g', x', hg', hgv, _, _⟩
        · rw [hv] at h6; cases h6
        · rw [← hgv] at h6; exact h.ownbox g' id x' _ b hg' hy' h6
      · have h7 := h.box_lt hy'
        intro he
        have h8 : b = G.β id := he
        omega

end
end Go.Eng
/- The operations that leave memory alone: what they give, symbolically; and that it is so. -/
namespace Go.Eng
open Go Go.RowKit

abbrev RCell := Ty × Option (Nat × TypeId)
/-- Objects that a call is handed by pointer, and may change: which arguments (true) are pointers to them, in their order; what their cells hold ahead of the call, and behind it; 'fresh': it gives a pointer to a new object, the last of 'outs'. -/
structure Ob where
  shape : List Bool
  objs : List (List RCell)
  outs : List (List RCell)
  fresh : Bool
/-- No objects at all: a function that writes over a slice of integers that it is handed (marked so by two lists behind, none ahead). -/
def Ob.isPl (ob : Ob) : Bool := ob.shape.isEmpty && ob.objs.isEmpty && (ob.outs.length == 2)
structure Sig where
  params : List Ty
  res : List (Bool × List RCell)
  ob : Option Ob

/-- A function that is handed data, a slice of its own kind and a map, and uses these two up; it gives a slice like it. -/
structure EatSig where
  ps : List Ty
  t : Ty
  T : TypeId
  kt : Ty
  TM : TypeId

/-- The contracts at hand; which temporaries are to be made as slices of their own kind: '.xo', written element by element; 1: what is made is to lean on new blocks alone; 2: all that readings lean on may be written; the maps' types, and their keys'; the functions that use a slice and a map up. -/
structure Tbl where
  l : List (Nat × Sig)
  ex : List Nat
  fr : Nat
  mp : List (TypeId × Ty) := []
  et : List (Nat × EatSig) := []

inductive Item where
  | asm (pc : Cond) (b : Bool)
  | obl (pc : Cond) (e : E)
  | call (p f : Nat) (args : E) (pc : Cond)
  | room (pc : Cond) (e : E) (bytes : Nat)

/-- The types of a type's cells. -/
def flat (P : Program) : Nat → TypeId → Option (List Ty)
  | 0, _ => none
  | n + 1, t =>
    match P.underlying t with
    | some (.int k) => some [.int k]
    | some .bool => some [.bool]
    | some .string => some [.str]
    | some (.slice e) =>
      match P.underlying e, flat P n e with
      | some (.struct _), some l => some [.list (.agg (.ofL l))]
      | _, some [x] => some [.list x]
      | _, _ => none
    | some (.pointer e) => (flat P n e).map fun l => [.ptr (.ofL l)]
    | some (.struct fs) => fs.toList.foldr (fun f acc => match flat P n f.type, acc with | some a, some b => some (a ++ b) | _, _ => none) (some [])
    | _ => none

def fuelT : Nat := 8
def fuelF : Nat := 12
def tyV (P : Program) (t : TypeId) : Option Ty :=
  match P.underlying t, flat P fuelF t with
  | some (.struct _), some l => some (.agg (.ofL l))
  | some _, some [x] => some x
  | _, _ => none

def constT : Ty → Value → Option SC
  | .int k, .int k' n => if k' = k ∧ inK k n then some (.dat (.kint k n) (.int k)) else none
  | .bool, .bool b => some (.dat (.kbool b) .bool)
  | .str, .string s => some (.dat (.kstr s) .str)
  | .list t, .slice none 0 0 => some (.nils t)
  | .ptr fs, .pointer none => some (.dat .nilp (.ptr fs))
  | _, _ => none

def opnd (P : Program) (σ : St) (hint : TypeId) : Operand → Option (Cond × SV)
  | .tmp t => σ.tm t
  | .const (.int k n) => (constT (.int k) (.int k n)).map fun c => ([], .one c)
  | .const .nilFunc => some ([], .one .mnil)
  | .const v => match tyV P hint with
    | some t => (constT t v).map fun c => ([], .one c)
    | none => none
  | .func f => some ([], .one (.dat (.un (.fnc f) .nil) (.fn f .nil)))
  | .global _ => none

def implied (c pc : Cond) : Bool := c.all pc.contains

def getV (P : Program) (σ : St) (pc : Cond) (x : Operand) (hint : TypeId) : Option SV :=
  match opnd P σ hint x with
  | some (c, s) => if implied c pc then some s else none
  | none => none

def asData : SC → Option (E × Ty)
  | .dat e t => some (e, t)
  | .nils t => some (.nil, .list t)
  | .own _ e t => some (e, .list t)
  | .clip e t => some (e, .list t)
  | _ => none
def asDatas : List SC → Option (List E × List Ty)
  | [] => some ([], [])
  | c :: r => match asData c, asDatas r with
    | some (e, t), some (es, ts) => some (e :: es, t :: ts)
    | _, _ => none
theorem asDatas_notMap {cs : List SC} {x : List E × List Ty} (h : asDatas cs = some x) : mapOf cs = none := by
  unfold mapOf
  split
  · simp [asDatas, asData] at h
  · rfl
theorem notMap_of {cs : List SC} {i : Nat} {c : SC} (hc : cs[i]? = some c) (h : ∀ e kt T, c ≠ .mcon e kt T) : mapOf cs = none := by
  unfold mapOf
  split
  · cases i with
    | zero => simp at hc; exact absurd hc.symm (h _ _ _)
    | succ i => simp at hc
  · rfl
def asDataV : SV → Option (E × Ty)
  | .one c => asData c
  | .agg l => match asDatas l with
    | some (es, ts) => some (.un .agg (.ofL es), .agg (.ofL ts))
    | none => none
  | .tup _ => none
def getD_ (P : Program) (σ : St) (pc : Cond) (x : Operand) (hint : TypeId) : Option (E × Ty) := (getV P σ pc x hint).bind asDataV

def idxCells (e : E) : Nat → List Ty → List SC
  | _, [] => []
  | j, t :: r => .dat (.un (.cell j) e) t :: idxCells e (j + 1) r
def asCells : SV → Option (List SC)
  | .one (.dat e (.agg fs)) => some (idxCells e 0 fs.toL)
  | .one c => some [c]
  | .agg l => some l
  | .tup _ => none

def aggT (P : Program) (t : TypeId) : Bool := match P.underlying t with | some (.struct _) => true | some (.array ..) => true | _ => false
def sizeT (P : Program) (t : TypeId) : Option Nat := (P.info? t).map (·.size)

def mkAnd : E → E → E
  | .kbool true, b => b
  | a, b => .bin .and a b
def mkPick (t : Ty) (c a b : E) : E :=
  match t, a, b with
  | .bool, a, .kbool false => .bin .and c a
  | .bool, .kbool true, b => .bin .or c b
  | _, a, b => .ite c a b

section
variable {P : Program} {C : Cx} {w : World} {G : Gh} {σ : St} {a : Act}

theorem constT_ok {t : Ty} {v : Value} {c : SC} (h : constT t v = some c) : RSC C w G c v ∧ c.scalar = true := by
  unfold constT at h
  split at h
  · split at h
    · rename_i hk
      injection h with h; subst h
      obtain ⟨rfl, hi⟩ := hk
      exact ⟨⟨rfl, .int _ _, has_int.2 ⟨_, rfl, hi⟩⟩, rfl⟩
    · cases h
  · injection h with h; subst h; exact ⟨⟨rfl, .bool _, has_bool.2 ⟨_, rfl⟩⟩, rfl⟩
  · injection h with h; subst h; exact ⟨⟨rfl, .str _, has_str.2 ⟨_, rfl⟩⟩, rfl⟩
  · injection h with h; subst h; exact ⟨rfl, rfl⟩
  · injection h with h; subst h; exact ⟨⟨rfl, .nilp, has_ptr.2 (.inl rfl)⟩, rfl⟩
  · cases h

theorem condB_implied {ρ : Nat → D} {c pc : Cond} (h : implied c pc = true) (hpc : condB ρ pc = true) : condB ρ c = true := by
  unfold condB implied at *
  rw [List.all_eq_true] at *
  intro x hx
  exact hpc x (by simpa using h x hx)

theorem opnd_ok (ht : SimT C w G σ.tm a) {hint : TypeId} {x : Operand} {c : Cond} {s : SV} (h : opnd P σ hint x = some (c, s)) (hc : condB C.ρ c = true) : RSV C w G s (a.eval x) := by
  cases x with
  | tmp t =>
    obtain ⟨v, h1, _, _, h2⟩ := ht t c s h
    rw [if_pos hc] at h2
    simpa [Act.eval, h1] using h2
  | const v =>
    have key : ∀ (t : Ty), (constT t v).map (fun c => (([] : Cond), SV.one c)) = some (c, s) → RSV C w G s v := by
      intro t h
      simp only [Option.map_eq_some_iff, Prod.mk.injEq] at h
      obtain ⟨c', h1, _, rfl⟩ := h
      exact (constT_ok h1).1
    cases v <;> simp only [opnd] at h <;> first
      | exact key _ h
      | (injection h with h; injection h with h1 h2; subst h2; exact .inr rfl)
      | (split at h
         · exact key _ h
         · cases h)
  | func f =>
    simp only [opnd, Option.some.injEq, Prod.mk.injEq] at h
    obtain ⟨_, rfl⟩ := h
    refine ⟨rfl, ?_, has_fn.2 ⟨[], rfl, has_nil.2 rfl⟩⟩
    exact Rep.fn f [] [] rfl (by intro i v d hi; simp at hi)
  | global g => cases h

theorem getV_ok (ht : SimT C w G σ.tm a) {pc : Cond} (hpc : condB C.ρ pc = true) {hint : TypeId} {x : Operand} {s : SV} (h : getV P σ pc x hint = some s) : RSV C w G s (a.eval x) := by
  unfold getV at h
  split at h
  · rename_i c s' ho
    split at h
    · rename_i hi
      injection h with h; subst h
      exact opnd_ok ht ho (condB_implied hi hpc)
    · cases h
  · cases h

theorem constT_lt {t : Ty} {v : Value} {c : SC} {n : Nat} (h : constT t v = some c) : c.lt n = true := by
  unfold constT at h
  split at h
  · split at h
    · injection h with h; subst h; rfl
    · cases h
  all_goals first | (injection h with h; subst h; rfl) | cases h

theorem getV_lt (ht : SimT C w G σ.tm a) {pc : Cond} {hint : TypeId} {x : Operand} {s : SV} (h : getV P σ pc x hint = some s) : s.lt C.N = true := by
  unfold getV at h
  split at h
  · rename_i c s' ho
    split at h
    · injection h with h; subst h
      cases x with
      | tmp t => exact (ht t c s' ho).choose_spec.2.2.1
      | const v =>
        have key : ∀ (t : Ty), (constT t v).map (fun c => (([] : Cond), SV.one c)) = some (c, s') → s'.lt C.N = true := by
          intro t h
          simp only [Option.map_eq_some_iff, Prod.mk.injEq] at h
          obtain ⟨c', h1, _, rfl⟩ := h
          exact constT_lt h1
        cases v <;> simp only [opnd] at ho <;> first
          | exact key _ ho
          | (injection ho with ho; injection ho with h1 h2; subst h2; rfl)
          | (split at ho
             · exact key _ ho
             · cases ho)
      | func f =>
        simp only [opnd, Option.some.injEq, Prod.mk.injEq] at ho
        obtain ⟨_, rfl⟩ := ho
        rfl
      | global g => cases ho
    · cases h
  · cases h

theorem asData_lt {c : SC} {e : E} {t : Ty} {n : Nat} (h : asData c = some (e, t)) (hc : c.lt n = true) : e.lt n = true := by
  cases c <;> simp only [asData] at h
  all_goals first | cases h; done | (injection h with h; simp only [Prod.mk.injEq] at h; obtain ⟨rfl, rfl⟩ := h; first | rfl | exact hc)
theorem asDatas_lt {n : Nat} : ∀ {l : List SC} {es : List E} {ts : List Ty}, asDatas l = some (es, ts) → l.all (SC.lt n) = true → (E.ofL es).lt n = true
  | [], es, ts, h, _ => by
    simp only [asDatas, Option.some.injEq, Prod.mk.injEq] at h
    obtain ⟨rfl, rfl⟩ := h; rfl
  | c :: l, es, ts, h, hl => by
    simp only [asDatas] at h
    simp only [List.all_cons, Bool.and_eq_true] at hl
    split at h
    · rename_i e t es' ts' h1 h2
      injection h with h; simp only [Prod.mk.injEq] at h; obtain ⟨rfl, rfl⟩ := h
      simp [E.ofL, E.lt, asData_lt h1 hl.1, asDatas_lt h2 hl.2]
    · cases h
theorem getD_lt (ht : SimT C w G σ.tm a) {pc : Cond} {hint : TypeId} {x : Operand} {e : E} {t : Ty} (h : getD_ P σ pc x hint = some (e, t)) : e.lt C.N = true := by
  unfold getD_ at h
  cases hs : getV P σ pc x hint with
  | none => simp [hs] at h
  | some s =>
    simp only [hs, Option.bind_some] at h
    have h0 := getV_lt ht hs
    cases s with
    | one c => exact asData_lt h h0
    | agg l =>
      simp only [asDataV] at h
      split at h
      · rename_i es ts h1
        injection h with h; simp only [Prod.mk.injEq] at h; obtain ⟨rfl, rfl⟩ := h
        exact asDatas_lt h1 h0
      · cases h
    | tup l => cases h

theorem asData_ok {c : SC} {e : E} {t : Ty} {v : Value} (h : asData c = some (e, t)) (hr : RSC C w G c v) : e.lt C.N = true ∧ Rep w G.S v (den C.ρ e) ∧ Has t (den C.ρ e) := by
  cases c <;> simp only [asData] at h
  · injection h with h; simp only [Prod.mk.injEq] at h; obtain ⟨rfl, rfl⟩ := h; exact hr
  · injection h with h; simp only [Prod.mk.injEq] at h; obtain ⟨rfl, rfl⟩ := h
    simp only [RSC] at hr; subst hr
    exact ⟨rfl, .nil none 0, has_list.2 ⟨[], rfl, lenOk_zero _, by simp⟩⟩
  · injection h with h; simp only [Prod.mk.injEq] at h; obtain ⟨rfl, rfl⟩ := h; exact ⟨hr.2.1, hr.2.2.1, hr.2.2.2.1⟩
  · injection h with h; simp only [Prod.mk.injEq] at h; obtain ⟨rfl, rfl⟩ := h; exact ⟨hr.1, hr.2.1, hr.2.2.1⟩
  all_goals cases h

theorem asDatas_ok : ∀ {l : List SC} {es : List E} {ts : List Ty} {vs : List Value}, asDatas l = some (es, ts) → RSCs C w G l vs →
    (E.ofL es).lt C.N = true ∧ es.length = vs.length ∧ ts.length = vs.length ∧ (∀ (i : Nat) v e, vs[i]? = some v → es[i]? = some e → Rep w G.S v (den C.ρ e)) ∧ HasL (.ofL ts) (es.map (den C.ρ))
  | [], es, ts, vs, h, hr => by
    simp only [asDatas, Option.some.injEq, Prod.mk.injEq] at h
    obtain ⟨rfl, rfl⟩ := h
    have hv : vs = [] := List.eq_nil_of_length_eq_zero hr.1
    subst hv
    exact ⟨rfl, rfl, rfl, by intro i v e hi; simp at hi, has_nil.2 rfl⟩
  | c :: l, es, ts, vs, h, hr => by
    simp only [asDatas] at h
    split at h
    · rename_i e t es' ts' h1 h2
      injection h with h; simp only [Prod.mk.injEq] at h; obtain ⟨rfl, rfl⟩ := h
      cases vs with
      | nil => have := hr.1; simp at this
      | cons v vs =>
        have hr' : RSCs C w G l vs := ⟨by simpa using hr.1, fun i c v hi hv => hr.2 (i + 1) c v (by simpa using hi) (by simpa using hv)⟩
        obtain ⟨k1, k2, k3, k4, k5⟩ := asDatas_ok h2 hr'
        obtain ⟨m1, m2, m3⟩ := asData_ok h1 (hr.2 0 c v rfl rfl)
        refine ⟨by simp [E.ofL, E.lt, m1, k1], by simp [k2], by simp [k3], ?_, has_cons.2 ⟨_, _, rfl, m3, k5⟩⟩
        intro i u e' hi he
        cases i with
        | zero => simp at hi he; subst hi; subst he; exact m2
        | succ i => exact k4 i u e' (by simpa using hi) (by simpa using he)
    · cases h

theorem asDataV_ok {s : SV} {e : E} {t : Ty} {v : Value} (h : asDataV s = some (e, t)) (hr : RSV C w G s v) : e.lt C.N = true ∧ Rep w G.S v (den C.ρ e) ∧ Has t (den C.ρ e) := by
  cases s with
  | one c => exact asData_ok h hr
  | agg l =>
    simp only [asDataV] at h
    split at h
    · rename_i es ts h1
      injection h with h; simp only [Prod.mk.injEq] at h; obtain ⟨rfl, rfl⟩ := h
      obtain ⟨vs, rfl, hs⟩ := hr
      obtain ⟨k1, k2, k3, k4, k5⟩ := asDatas_ok h1 hs
      refine ⟨by simpa [E.lt] using k1, ?_, ?_⟩
      · simp only [den, den_ofL, U.den, D.toL]
        refine .agg vs _ (by simp [k2]) fun i v d hi hd => ?_
        simp only [List.getElem?_map, Option.map_eq_some_iff] at hd
        obtain ⟨e, he, rfl⟩ := hd
        exact k4 i v e hi he
      · simp only [den, den_ofL, U.den, D.toL]
        exact has_agg.2 ⟨_, rfl, k5⟩
    · cases h
  | tup l => cases h

theorem getD_ok (ht : SimT C w G σ.tm a) {pc : Cond} (hpc : condB C.ρ pc = true) {hint : TypeId} {x : Operand} {e : E} {t : Ty} (h : getD_ P σ pc x hint = some (e, t)) :
    e.lt C.N = true ∧ Rep w G.S (a.eval x) (den C.ρ e) ∧ Has t (den C.ρ e) := by
  unfold getD_ at h
  cases hs : getV P σ pc x hint with
  | none => simp [hs] at h
  | some s => simp only [hs, Option.bind_some] at h; exact asDataV_ok h (getV_ok ht hpc hs)

theorem idxCells_get (e : E) : ∀ (ts : List Ty) (j i : Nat), (idxCells e j ts)[i]? = (ts[i]?).map fun t => SC.dat (.un (.cell (j + i)) e) t
  | [], j, i => by simp [idxCells]
  | t :: ts, j, 0 => by simp [idxCells]
  | t :: ts, j, i + 1 => by simp only [idxCells, List.getElem?_cons_succ, idxCells_get e ts (j + 1) i]; congr 2; funext t; congr 3; omega
theorem idxCells_len (e : E) : ∀ (ts : List Ty) (j : Nat), (idxCells e j ts).length = ts.length
  | [], _ => rfl
  | _ :: ts, j => by simp [idxCells, idxCells_len e ts]

theorem toL_getD {l : List D} {i : Nat} {d : D} (h : l[i]? = some d) : l.getD i .top = d := by simp [List.getD, h]

theorem asCells_ok {s : SV} {l : List SC} {v : Value} (h : asCells s = some l) (hr : RSV C w G s v) (hsc : l.all SC.scalar = true) : ∃ vs : List Value, v.cells = vs.toArray ∧ RSCs C w G l vs := by
  cases s with
  | one c =>
    by_cases hc : ∃ e fs, c = .dat e (.agg fs)
    · obtain ⟨e, fs, rfl⟩ := hc
      simp only [asCells, Option.some.injEq] at h
      subst h
      obtain ⟨h1, h2, h3⟩ := hr
      obtain ⟨l, hl, hh, cs, rfl, hlen, hc⟩ := h2.aggOf h3
      refine ⟨cs, rfl, by rw [idxCells_len, hlen, hasL_len hh], fun i c v hi hv => ?_⟩
      rw [idxCells_get] at hi
      simp only [Option.map_eq_some_iff] at hi
      obtain ⟨t, ht, rfl⟩ := hi
      obtain ⟨x, hx, hhx⟩ := hasL_get hh i t ht
      have hd : den C.ρ (.un (.cell (0 + i)) e) = x := by simp only [den, U.den, hl, D.toL, Nat.zero_add]; exact toL_getD hx
      exact ⟨by simpa [E.lt] using h1, by rw [hd]; exact hc i v x hv hx, by rw [hd]; exact hhx⟩
    · have h' : l = [c] := by
        cases c with
        | dat e t => cases t <;> simp only [asCells, Option.some.injEq] at h <;> first | exact h.symm | exact absurd ⟨_, _, rfl⟩ hc
        | _ => simp only [asCells, Option.some.injEq] at h; exact h.symm
      subst h'
      simp only [List.all_cons, List.all_nil, Bool.and_true] at hsc
      have ho := RSC.oneCell hr hsc
      refine ⟨[v], by cases v <;> simp [Value.cells, Value.oneCell'] at ho ⊢, rfl, fun i c' u hi hu => ?_⟩
      cases i with
      | zero => simp at hi hu; subst hi; subst hu; exact hr
      | succ i => simp at hi
  | agg l' =>
    simp only [asCells, Option.some.injEq] at h; subst h
    obtain ⟨vs, rfl, hs⟩ := hr
    exact ⟨vs, rfl, hs⟩
  | tup l' => cases h

theorem mkPick_den (ρ : Nat → D) (t : Ty) (c x y : E) (hx : (den ρ c).toB = true → Has t (den ρ x)) (hy : (den ρ c).toB = false → Has t (den ρ y)) :
    den ρ (mkPick t c x y) = if (den ρ c).toB then den ρ x else den ρ y := by
  unfold mkPick
  split
  · simp only [den, B.den]
    cases hcb : (den ρ c).toB with
    | false => simp
    | true => obtain ⟨b, hb⟩ := has_bool.1 (hx hcb); simp [hb, D.toB]
  · simp only [den, B.den]
    cases hcb : (den ρ c).toB with
    | false => obtain ⟨b, hb⟩ := has_bool.1 (hy hcb); simp [hb, D.toB]
    | true => simp
  · rfl
theorem mkPick_lt {N : Nat} {t : Ty} {c x y : E} (hc : c.lt N = true) (hx : x.lt N = true) (hy : y.lt N = true) : (mkPick t c x y).lt N = true := by
  unfold mkPick
  split <;> simp_all [E.lt]
end
end Go.Eng
