/-
  Data, types, expressions of the symbolic run: what a value reads as, and that it goes on reading so.
-/
import Derived.Orders
import Derived.Below
import Derived.Laws.AppendOwn
import Derived.Laws.Rows
import Derived.Laws.Slices
import Derived.Laws.StructEq
import Derived.Laws.Cells
namespace Go.Eng
open Go Go.RowKit

/-- What a Go value reads as. -/
inductive D where
  | int (k : IntKind) (n : Int)
  | bool (b : Bool)
  | str (s : ByteArray)
  | list (l : List D)
  | agg (l : List D)
  | tup (l : List D)
  | nilp
  | ptr (l : List D)
  | fn (f : Nat) (l : List D)
  | top
  deriving Inhabited

def D.cells : D → List D
  | .agg l => l
  | d => [d]
def D.toI : D → Int
  | .int _ n => n
  | _ => 0
def D.toB : D → Bool
  | .bool b => b
  | _ => false
def D.toL : D → List D
  | .list l => l
  | .agg l => l
  | .tup l => l
  | .ptr l => l
  | .fn _ l => l
  | _ => []
def D.isNilp : D → Bool
  | .nilp => true
  | _ => false

/-- Types; lists of types by 'nil' and 'cons'. -/
inductive Ty where
  | int (k : IntKind)
  | bool
  | str
  | list (t : Ty)
  | agg (fs : Ty)
  | tup (fs : Ty)
  | box (fs : Ty)
  | ptr (fs : Ty)
  | fn (f : Nat) (fs : Ty)
  | nil
  | cons (h t : Ty)
  deriving DecidableEq

def Ty.toL : Ty → List Ty
  | .cons h t => h :: t.toL
  | _ => []
def Ty.ofL : List Ty → Ty
  | [] => .nil
  | h :: t => .cons h (Ty.ofL t)
theorem Ty.toL_ofL (l : List Ty) : (Ty.ofL l).toL = l := by
  induction l with
  | nil => rfl
  | cons h t ih => simp [Ty.ofL, Ty.toL, ih]
def Ty.cells : Ty → List Ty
  | .agg fs => fs.toL
  | t => [t]

/-- The bytes of a scalar, and of a type of scalars one behind the other. -/
def Ty.sc : Ty → Nat
  | .int k => k.bits / 8
  | .bool => 1
  | .str => 16
  | .list _ => 24
  | _ => 8
def Ty.al : Ty → Nat
  | .int k => k.bits / 8
  | .bool => 1
  | _ => 8
def Ty.bytes : Ty → Nat
  | .agg fs =>
    let r := fs.toL.foldl (fun x c => ((x.1 + c.al - 1) / c.al * c.al + c.sc, max x.2 c.al)) (0, 1)
    (r.1 + r.2 - 1) / r.2 * r.2
  | t => t.sc
theorem Ty.bytes_ofL (fs : Ty) : (Ty.agg (.ofL fs.toL)).bytes = (Ty.agg fs).bytes := by
  simp only [Ty.bytes, Ty.toL_ofL]
/-- A list of so many may be: its bytes at most K. -/
def lenOkK (K : Nat) (t : Ty) (n : Nat) : Prop := n ≤ maxLen ∧ n * t.bytes ≤ K
def lenOk (t : Ty) (n : Nat) : Prop := n ≤ maxLen ∧ n * t.bytes ≤ 140737488355328
theorem lenOk_zero (t : Ty) : lenOk t 0 := ⟨Nat.zero_le _, by omega⟩
theorem lenOkK_zero (K : Nat) (t : Ty) : lenOkK K t 0 := ⟨Nat.zero_le _, by omega⟩
theorem lenOk.mono {t : Ty} {n m : Nat} (h : lenOk t n) (hm : m ≤ n) : lenOk t m := ⟨Nat.le_trans hm h.1, Nat.le_trans (Nat.mul_le_mul_right _ hm) h.2⟩

def inK (k : IntKind) (n : Int) : Prop := k.min ≤ n ∧ n ≤ k.max
instance (k : IntKind) (n : Int) : Decidable (inK k n) := inferInstanceAs (Decidable (_ ∧ _))

/-- (what one datum is, what a list of data is). -/
def HasP (K : Nat) : Ty → (D → Prop) × (List D → Prop)
  | .int k => (fun d => ∃ n, d = .int k n ∧ inK k n, fun _ => False)
  | .bool => (fun d => ∃ b, d = .bool b, fun _ => False)
  | .str => (fun d => ∃ s, d = .str s, fun _ => False)
  | .list t => (fun d => ∃ l, d = .list l ∧ lenOkK K t l.length ∧ ∀ x ∈ l, (HasP K t).1 x, fun _ => False)
  | .agg fs => (fun d => ∃ l, d = .agg l ∧ (HasP K fs).2 l, fun _ => False)
  | .tup fs => (fun d => ∃ l, d = .tup l ∧ (HasP K fs).2 l, fun _ => False)
  | .box fs => (fun d => ∃ l, d = .ptr l ∧ (HasP K fs).2 l, fun _ => False)
  | .ptr fs => (fun d => d = .nilp ∨ ∃ l, d = .ptr l ∧ (HasP K fs).2 l, fun _ => False)
  | .fn f fs => (fun d => ∃ l, d = .fn f l ∧ (HasP K fs).2 l, fun _ => False)
  | .nil => (fun _ => False, fun l => l = [])
  | .cons h t => (fun _ => False, fun l => ∃ a r, l = a :: r ∧ (HasP K h).1 a ∧ (HasP K t).2 r)

def HasK (K : Nat) (t : Ty) (d : D) : Prop := (HasP K t).1 d
def HasLK (K : Nat) (t : Ty) (l : List D) : Prop := (HasP K t).2 l
def Has (t : Ty) (d : D) : Prop := (HasP 140737488355328 t).1 d
def HasL (t : Ty) (l : List D) : Prop := (HasP 140737488355328 t).2 l
/-- Where bytes are bounded by less they are bounded. -/
theorem hasP_mono {K K' : Nat} (h : K ≤ K') : ∀ (t : Ty), (∀ d, HasK K t d → HasK K' t d) ∧ ∀ l, HasLK K t l → HasLK K' t l
  | .int _ | .bool | .str => ⟨fun _ h => h, fun _ h => h⟩
  | .nil => ⟨fun _ h => h, fun _ h => h⟩
  | .list t => ⟨fun _ ⟨l, h1, h2, h3⟩ => ⟨l, h1, ⟨h2.1, Nat.le_trans h2.2 h⟩, fun x hx => (hasP_mono h t).1 x (h3 x hx)⟩, fun _ h => h⟩
  | .agg t | .tup t | .box t | .fn _ t => ⟨fun _ ⟨l, h1, h2⟩ => ⟨l, h1, (hasP_mono h t).2 l h2⟩, fun _ h => h⟩
  | .ptr t => ⟨fun _ h' => h'.elim .inl fun ⟨l, h1, h2⟩ => .inr ⟨l, h1, (hasP_mono h t).2 l h2⟩, fun _ h => h⟩
  | .cons a t => ⟨fun _ h => h, fun _ ⟨x, r, h1, h2, h3⟩ => ⟨x, r, h1, (hasP_mono h a).1 x h2, (hasP_mono h t).2 r h3⟩⟩


section
variable {d : D} {l : List D} {k : IntKind} {t h : Ty} {f : Nat}
theorem has_int : Has (.int k) d ↔ ∃ n, d = .int k n ∧ inK k n := Iff.rfl
theorem has_bool : Has .bool d ↔ ∃ b, d = .bool b := Iff.rfl
theorem has_str : Has .str d ↔ ∃ s, d = .str s := Iff.rfl
theorem has_list : Has (.list t) d ↔ ∃ l, d = .list l ∧ lenOk t l.length ∧ ∀ x ∈ l, Has t x := Iff.rfl
theorem has_agg : Has (.agg t) d ↔ ∃ l, d = .agg l ∧ HasL t l := Iff.rfl
theorem has_tup : Has (.tup t) d ↔ ∃ l, d = .tup l ∧ HasL t l := Iff.rfl
theorem has_box : Has (.box t) d ↔ ∃ l, d = .ptr l ∧ HasL t l := Iff.rfl
theorem has_ptr : Has (.ptr t) d ↔ d = .nilp ∨ ∃ l, d = .ptr l ∧ HasL t l := Iff.rfl
theorem has_fn : Has (.fn f t) d ↔ ∃ l, d = .fn f l ∧ HasL t l := Iff.rfl
theorem has_nil : HasL .nil l ↔ l = [] := Iff.rfl
theorem has_cons : HasL (.cons h t) l ↔ ∃ a r, l = a :: r ∧ Has h a ∧ HasL t r := Iff.rfl
end

theorem hasL_len : ∀ {t : Ty} {l : List D}, HasL t l → l.length = t.toL.length
  | .nil, l, h => by rw [has_nil.1 h]; rfl
  | .cons a b, l, h => by
    obtain ⟨x, r, rfl, _, hr⟩ := has_cons.1 h
    simp [Ty.toL, hasL_len hr]
  | .int _, _, h | .bool, _, h | .str, _, h | .list _, _, h | .agg _, _, h | .tup _, _, h | .box _, _, h | .ptr _, _, h | .fn _ _, _, h => h.elim

theorem hasL_get : ∀ {t : Ty} {l : List D}, HasL t l → ∀ (j : Nat) u, t.toL[j]? = some u → ∃ x, l[j]? = some x ∧ Has u x
  | .nil, l, h, j, u, hj => by simp [Ty.toL] at hj
  | .cons a b, l, h, j, u, hj => by
    obtain ⟨x, r, rfl, hx, hr⟩ := has_cons.1 h
    cases j with
    | zero => simp [Ty.toL] at hj; subst hj; exact ⟨x, rfl, hx⟩
    | succ j => exact hasL_get hr j u (by simpa [Ty.toL] using hj)
  | .int _, _, h, _, _, _ | .bool, _, h, _, _, _ | .str, _, h, _, _, _ | .list _, _, h, _, _, _ | .agg _, _, h, _, _, _ | .tup _, _, h, _, _, _ | .box _, _, h, _, _, _ | .ptr _, _, h, _, _, _ | .fn _ _, _, h, _, _, _ => h.elim

theorem hasL_mk : ∀ {ts : List Ty} {l : List D}, l.length = ts.length → (∀ (j : Nat) u x, ts[j]? = some u → l[j]? = some x → Has u x) → HasL (Ty.ofL ts) l
  | [], l, hl, _ => has_nil.2 (List.eq_nil_of_length_eq_zero (by simpa using hl))
  | t :: ts, [], hl, _ => by simp at hl
  | t :: ts, x :: l, hl, h => has_cons.2 ⟨x, l, rfl, h 0 t x rfl rfl, hasL_mk (by simpa using hl) fun j u y h1 h2 => h (j + 1) u y (by simpa using h1) (by simpa using h2)⟩

/-- A type with cells: scalar, or a struct of scalars: as many cells as the datum. -/
theorem has_cells {t : Ty} {d : D} (h : Has t d) : d.cells.length = t.cells.length ∧ ∀ (j : Nat) u, t.cells[j]? = some u → ∃ x, d.cells[j]? = some x ∧ Has u x := by
  by_cases ha : ∃ fs, t = .agg fs
  · obtain ⟨fs, rfl⟩ := ha
    obtain ⟨l, rfl, hl⟩ := has_agg.1 h
    exact ⟨hasL_len hl, hasL_get hl⟩
  · have ht : t.cells = [t] := by cases t <;> first | rfl | exact absurd ⟨_, rfl⟩ ha
    have hd : d.cells = [d] := by
      cases t with
      | agg fs => exact absurd ⟨_, rfl⟩ ha
      | int k => obtain ⟨n, rfl, _⟩ := has_int.1 h; rfl
      | bool => obtain ⟨n, rfl⟩ := has_bool.1 h; rfl
      | str => obtain ⟨n, rfl⟩ := has_str.1 h; rfl
      | list t => obtain ⟨n, rfl, _⟩ := has_list.1 h; rfl
      | tup t => obtain ⟨n, rfl, _⟩ := has_tup.1 h; rfl
      | box t => obtain ⟨n, rfl, _⟩ := has_box.1 h; rfl
      | ptr t => rcases has_ptr.1 h with rfl | ⟨n, rfl, _⟩ <;> rfl
      | fn f t => obtain ⟨n, rfl, _⟩ := has_fn.1 h; rfl
      | nil => exact h.elim
      | cons a b => exact h.elim
    rw [ht, hd]
    refine ⟨rfl, fun j u hj => ?_⟩
    cases j with
    | zero => simp at hj; subst hj; exact ⟨d, rfl, h⟩
    | succ j => simp at hj

/-- Which cells a reading leans on. -/
abbrev Foot := Nat → Nat → Prop

/-- The value reads as the datum, off cells of S alone. -/
inductive Rep (w : World) (S : Foot) : Value → D → Prop
  | int (k : IntKind) (n : Int) : Rep w S (.int k n) (.int k n)
  | bool (b : Bool) : Rep w S (.bool b) (.bool b)
  | str (s : ByteArray) : Rep w S (.string s) (.str s)
  | agg (cs : List Value) (ds : List D) (hl : cs.length = ds.length) (h : ∀ (i : Nat) v d, cs[i]? = some v → ds[i]? = some d → Rep w S v d) : Rep w S (.agg cs.toArray) (.agg ds)
  | tup (cs : List Value) (ds : List D) (hl : cs.length = ds.length) (h : ∀ (i : Nat) v d, cs[i]? = some v → ds[i]? = some d → Rep w S v d) : Rep w S (.tuple cs.toArray) (.tup ds)
  | nilp : Rep w S (.pointer none) .nilp
  | ptr (b : Nat) (cs : List Value) (ds : List D) (hl : cs.length = ds.length) (hS : ∀ i, i < ds.length → S b i) (hc : ∀ (i : Nat) v, cs[i]? = some v → w.cell? ⟨b, i, none⟩ = some v)
      (h : ∀ (i : Nat) v d, cs[i]? = some v → ds[i]? = some d → Rep w S v d) : Rep w S (.pointer (some ⟨b, 0, none⟩)) (.ptr ds)
  | nil (a : Option Addr) (cap : Nat) : Rep w S (.slice a 0 cap) (.list [])
  | list (b off cap sz : Nat) (xs : List Value) (ds : List D) (hsz : 0 < sz) (hne : ds ≠ []) (hcap : ds.length ≤ cap) (hl : xs.length = ds.length * sz)
      (hS : ∀ i, i < xs.length → S b (off + i)) (hc : ∀ (i : Nat) v, xs[i]? = some v → w.cell? ⟨b, off + i, none⟩ = some v)
      (hw : ∀ (i : Nat) d, ds[i]? = some d → d.cells.length = sz)
      (h : ∀ (i : Nat) d (j : Nat) v c, ds[i]? = some d → d.cells[j]? = some c → xs[i * sz + j]? = some v → Rep w S v c) : Rep w S (.slice (some ⟨b, off, none⟩) ds.length cap) (.list ds)
  | fn (f : Nat) (cs : List Value) (ds : List D) (hl : cs.length = ds.length) (h : ∀ (i : Nat) v d, cs[i]? = some v → ds[i]? = some d → Rep w S v d) : Rep w S (.func (.func f) #[] cs.toArray) (.fn f ds)

/-- It goes on reading so, wherever the cells of S hold what they held. -/
theorem Rep.keep {w w' : World} {S S' : Foot} {v : Value} {d : D} (hS : ∀ b o, S b o → S' b o) (hk : ∀ b o, S b o → w'.cell? ⟨b, o, none⟩ = w.cell? ⟨b, o, none⟩) (h : Rep w S v d) : Rep w' S' v d := by
  induction h with
  | int k n => exact .int k n
  | bool b => exact .bool b
  | str s => exact .str s
  | agg cs ds hl _ ih => exact .agg cs ds hl ih
  | tup cs ds hl _ ih => exact .tup cs ds hl ih
  | nilp => exact .nilp
  | ptr b cs ds hl hs hc _ ih =>
    refine .ptr b cs ds hl (fun i hi => hS _ _ (hs i hi)) (fun i v hv => ?_) ih
    have hi : i < cs.length := (List.getElem?_eq_some_iff.1 hv).1
    rw [hk _ _ (hs i (by omega))]
    exact hc i v hv
  | nil a cap => exact .nil a cap
  | list b off cap sz xs ds hsz hne hcap hl hs hc hw _ ih =>
    refine .list b off cap sz xs ds hsz hne hcap hl (fun i hi => hS _ _ (hs i hi)) (fun i v hv => ?_) hw ih
    have hi : i < xs.length := (List.getElem?_eq_some_iff.1 hv).1
    rw [hk _ _ (hs i hi)]
    exact hc i v hv
  | fn f cs ds hl _ ih => exact .fn f cs ds hl ih

section
variable {w : World} {S : Foot} {v : Value} {l : List D} {k : IntKind} {n : Int}
theorem Rep.inv_int (h : Rep w S v (.int k n)) : v = .int k n := by cases h; rfl
theorem Rep.inv_bool {b : Bool} (h : Rep w S v (.bool b)) : v = .bool b := by cases h; rfl
theorem Rep.inv_str {b : ByteArray} (h : Rep w S v (.str b)) : v = .string b := by cases h; rfl
theorem Rep.inv_agg (h : Rep w S v (.agg l)) : ∃ cs : List Value, v = .agg cs.toArray ∧ cs.length = l.length ∧ ∀ (i : Nat) u d, cs[i]? = some u → l[i]? = some d → Rep w S u d := by
  cases h with | agg cs _ hl h => exact ⟨cs, rfl, hl, h⟩
theorem Rep.inv_fn {f : Nat} (h : Rep w S v (.fn f l)) : ∃ cs : List Value, v = .func (.func f) #[] cs.toArray ∧ cs.length = l.length ∧ ∀ (i : Nat) u d, cs[i]? = some u → l[i]? = some d → Rep w S u d := by
  cases h with | fn _ cs _ hl h => exact ⟨cs, rfl, hl, h⟩
theorem Rep.inv_ptr (h : Rep w S v (.ptr l)) : ∃ (b : Nat) (cs : List Value), v = .pointer (some ⟨b, 0, none⟩) ∧ cs.length = l.length ∧ (∀ i, i < l.length → S b i) ∧ (∀ (i : Nat) u, cs[i]? = some u → w.cell? ⟨b, i, none⟩ = some u) ∧
    ∀ (i : Nat) u d, cs[i]? = some u → l[i]? = some d → Rep w S u d := by
  cases h with | ptr b cs _ hl hs hc h => exact ⟨b, cs, rfl, hl, hs, hc, h⟩
theorem Rep.inv_nilp (h : Rep w S v .nilp) : v = .pointer none := by cases h; rfl
theorem Rep.inv_list (h : Rep w S v (.list l)) : ∃ a cap, v = .slice a l.length cap := by
  cases h with
  | nil a cap => exact ⟨a, cap, rfl⟩
  | list b off cap => exact ⟨_, cap, rfl⟩
/-- An element of a slice: where its cells lie, and what they hold. -/
theorem Rep.inv_elem (h : Rep w S v (.list l)) {i : Nat} {d : D} (hi : l[i]? = some d) : ∃ (b off cap : Nat) (u : Nat → Value), v = .slice (some ⟨b, off, none⟩) l.length cap ∧
    ∀ (j : Nat) c, d.cells[j]? = some c → S b (off + i * d.cells.length + j) ∧ w.cell? ⟨b, off + i * d.cells.length + j, none⟩ = some (u j) ∧ Rep w S (u j) c := by
  cases h with
  | nil a cap => simp at hi
  | list b off cap sz xs _ hsz hne hcap hl hs hc hw h =>
    have hsz' := hw i d hi
    have hil : i < l.length := (List.getElem?_eq_some_iff.1 hi).1
    refine ⟨b, off, cap, fun j => xs.getD (i * sz + j) undef, rfl, fun j c hj => ?_⟩
    have hjl : j < d.cells.length := (List.getElem?_eq_some_iff.1 hj).1
    have hlt : i * sz + j < xs.length := by
      have : (i + 1) * sz ≤ l.length * sz := Nat.mul_le_mul_right _ hil
      rw [Nat.add_mul] at this
      omega
    have hx : xs[i * sz + j]? = some (xs.getD (i * sz + j) undef) := by simp [List.getD, hlt]
    rw [hsz', Nat.add_assoc]
    exact ⟨hs _ hlt, hc _ _ hx, h i d j _ c hi hj hx⟩
end

/-- The operations of expressions. -/
inductive U where
  | not | neg (k : IntKind) | len | cell (j : Nat) | part (off n : Nat) | agg | tup | ptrc | fnc (f : Nat) | isnil | wrapk (k : IntKind)
  deriving DecidableEq
inductive B where
  | add (k : IntKind) | sub (k : IntKind) | mul (k : IntKind) | rem (k : IntKind) | quo (k : IntKind)
  | lt | le | gt | ge | eq | ne | and | or | beq | idx | cat | take | drop | min (k : IntKind) | max (k : IntKind) | xor (k : IntKind)
  deriving DecidableEq
inductive E where
  | var (i : Nat) | kint (k : IntKind) (n : Int) | kbool (b : Bool) | kstr (s : ByteArray) | nilp
  | nil | cons (h t : E)
  | un (o : U) (e : E) | bin (o : B) (a b : E) | ite (c a b : E)
  deriving DecidableEq, Inhabited

def U.den : U → D → D
  | .not, d => .bool (!d.toB)
  | .neg k, d => .int k (k.wrap (0 - d.toI))
  | .len, d => .int .i64 d.toL.length
  | .cell j, d => d.toL.getD j .top
  | .part off n, d => .agg ((d.toL.drop off).take n)
  | .agg, d => .agg d.toL
  | .tup, d => .tup d.toL
  | .ptrc, d => .ptr d.toL
  | .fnc f, d => .fn f d.toL
  | .isnil, d => .bool d.isNilp
  | .wrapk k, d => .int k (k.wrap d.toI)
def bitXor (k : IntKind) (x y : Int) : Int := k.wrap ((BitVec.ofInt k.bits x ^^^ BitVec.ofInt k.bits y).toNat)
def B.den : B → D → D → D
  | .add k, x, y => .int k (k.wrap (x.toI + y.toI))
  | .sub k, x, y => .int k (k.wrap (x.toI - y.toI))
  | .mul k, x, y => .int k (k.wrap (x.toI * y.toI))
  | .rem k, x, y => .int k (x.toI.tmod y.toI)
  | .quo k, x, y => .int k (k.wrap (x.toI.tdiv y.toI))
  | .lt, x, y => .bool (decide (x.toI < y.toI))
  | .le, x, y => .bool (decide (x.toI ≤ y.toI))
  | .gt, x, y => .bool (decide (x.toI > y.toI))
  | .ge, x, y => .bool (decide (x.toI ≥ y.toI))
  | .eq, x, y => .bool (x.toI == y.toI)
  | .ne, x, y => .bool (x.toI != y.toI)
  | .and, x, y => .bool (x.toB && y.toB)
  | .or, x, y => .bool (x.toB || y.toB)
  | .beq, x, y => .bool (x.toB == y.toB)
  | .idx, x, y => x.toL.getD y.toI.toNat .top
  | .cat, x, y => .list (x.toL ++ y.toL)
  | .take, x, y => .list (x.toL.take y.toI.toNat)
  | .drop, x, y => .list (x.toL.drop y.toI.toNat)
  | .min k, x, y => .int k (if y.toI < x.toI then y.toI else x.toI)
  | .max k, x, y => .int k (if y.toI > x.toI then y.toI else x.toI)
  | .xor k, x, y => .int k (bitXor k x.toI y.toI)

def den (ρ : Nat → D) : E → D
  | .var i => ρ i
  | .kint k n => .int k n
  | .kbool b => .bool b
  | .kstr s => .str s
  | .nilp => .nilp
  | .nil => .list []
  | .cons h t => .list (den ρ h :: (den ρ t).toL)
  | .un o e => o.den (den ρ e)
  | .bin o a b => o.den (den ρ a) (den ρ b)
  | .ite c a b => if (den ρ c).toB then den ρ a else den ρ b

/-- All variables lie below n. -/
def E.lt (n : Nat) : E → Bool
  | .var i => i < n
  | .kint .. | .kbool _ | .kstr _ | .nilp | .nil => true
  | .cons h t => h.lt n && t.lt n
  | .un _ e => e.lt n
  | .bin _ a b => a.lt n && b.lt n
  | .ite c a b => c.lt n && a.lt n && b.lt n

def upd {α : Type} (ρ : Nat → α) (i : Nat) (d : α) : Nat → α := fun j => if j = i then d else ρ j
theorem upd_same {α : Type} (ρ : Nat → α) (i : Nat) (d : α) : upd ρ i d i = d := by simp [upd]
theorem upd_ne {α : Type} (ρ : Nat → α) {i j : Nat} (d : α) (h : j ≠ i) : upd ρ i d j = ρ j := by simp [upd, h]

theorem den_agree {ρ ρ' : Nat → D} {n : Nat} (h : ∀ i, i < n → ρ' i = ρ i) : ∀ {e : E}, e.lt n = true → den ρ' e = den ρ e := by
  intro e
  induction e with
  | var i => intro he; exact h i (by simpa [E.lt] using he)
  | kint | kbool | kstr | nilp | nil => intro _; rfl
  | cons a b iha ihb => intro he; simp only [E.lt, Bool.and_eq_true] at he; simp only [den, iha he.1, ihb he.2]
  | un o e ih => intro he; simp only [E.lt] at he; simp only [den, ih he]
  | bin o a b iha ihb => intro he; simp only [E.lt, Bool.and_eq_true] at he; simp only [den, iha he.1, ihb he.2]
  | ite c a b ihc iha ihb => intro he; simp only [E.lt, Bool.and_eq_true] at he; simp only [den, ihc he.1.1, iha he.1.2, ihb he.2]

def E.ofL : List E → E
  | [] => .nil
  | h :: t => .cons h (E.ofL t)
theorem den_ofL (ρ : Nat → D) (l : List E) : den ρ (E.ofL l) = .list (l.map (den ρ)) := by
  induction l with
  | nil => rfl
  | cons h t ih => simp [E.ofL, den, ih, D.toL]

end Go.Eng
