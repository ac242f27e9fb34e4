/-
  Contracts one after the other; small laws for what is left.
-/
import Derived.Test.YtjpkeliliahjoaaEngSa
namespace Go.Eng
open Go Go.RowKit

def fvc (P : Program) (cs : Tbl) (anns : List (Nat × Ann)) (sig : Sig) (fn : Func) : VC :=
  match fn.body with
  | some c => vc ⟨P, cs, fn.ntmps, anns, [], []⟩ c (fun ex σ _ _ => match ex with | .exit _ => .stuck 20 | _ => retVC P sig fn σ) (St.start sig.params) sig.params.length 0
  | none => .stuck 30
def fnB (fn : Func) (sig : Sig) : Bool := sig.ob.isNone && fn.body.isSome && !(fn.name == "runtime.NumGoroutine") && decide (sig.params.length ≤ fn.ntmps)
/-- In mode 0 nothing is told to lean on new blocks alone. -/
def frB (cs : Tbl) (sig : Sig) : Bool := cs.fr == 0 && noFr sig.res || cs.fr == 1
theorem frB_ok {cs : Tbl} {sig : Sig} (h : frB cs sig = true) : cs.fr = 0 ∧ noFr sig.res = true ∨ cs.fr = 1 := by
  unfold frB at h
  simpa using h

/-- Each function of a table keeps its contract. -/
def Con (P : Program) (Pre : Nat → List D → Prop) (Φ : Nat → List D → D) (cs : List (Nat × Sig)) : Prop := ∀ k sig, lk cs k = some sig → PureFn P k sig (Pre k) (Φ k)

theorem con_nil {P : Program} {Pre : Nat → List D → Prop} {Φ : Nat → List D → D} : Con P Pre Φ [] := fun k sig h => by cases h
theorem con_cons {P : Program} {Pre : Nat → List D → Prop} {Φ : Nat → List D → D} {k : Nat} {s : Sig} {cs : List (Nat × Sig)} (h : PureFn P k s (Pre k) (Φ k)) (t : Con P Pre Φ cs) : Con P Pre Φ ((k, s) :: cs) := fun j sig hj => by
  simp only [lk] at hj
  split at hj
  · rename_i e; subst e; injection hj with hj; subst hj; exact h
  · exact t j sig hj

theorem pureFn_of {P : Program} {f : Nat} {fn : Func} {sig : Sig} {Pre0 : List D → Prop} {Φ0 : List D → D} {cs : Tbl} {Φ : Nat → List D → D} {Pre : Nat → List D → Prop} {anns : List (Nat × Ann)} {v : VC}
    (hmix : P.follows .mixedOrders = true) (hcon : Con P Pre Φ cs.l) (hcf : frB cs sig = true) (hf : P.funcs[f]? = some fn) (hB : fnB fn sig = true) (hv : fvc P cs anns sig fn = v)
    (hc : ∀ ds, HasL (.ofL sig.params) ds → Pre0 ds → v.holds Φ Pre (fun d => d = Φ0 ds) (fun i => ds.getD i .top) []) : PureFn P f sig Pre0 Φ0 := by
  unfold fnB at hB
  simp only [Bool.and_eq_true, decide_eq_true_eq] at hB
  obtain ⟨⟨⟨h0, h1⟩, h2⟩, h3⟩ := hB
  obtain ⟨c, hb⟩ := Option.isSome_iff_exists.1 h1
  refine pureFn_of_vc cs [] [] Φ Pre anns v hf hb (by simpa using h2) hmix h3 (by simpa using h0) hcon (frB_ok hcf) (fun _ _ h => by cases h) (fun _ _ h => by cases h) ?_ hc
  unfold fvc at hv
  rw [hb] at hv
  exact hv

theorem toL_list (l : List D) : (D.list l).toL = l := rfl
theorem toL_agg (l : List D) : (D.agg l).toL = l := rfl
theorem toL_tup (l : List D) : (D.tup l).toL = l := rfl
theorem toL_ptr (l : List D) : (D.ptr l).toL = l := rfl
theorem toL_fn (f : Nat) (l : List D) : (D.fn f l).toL = l := rfl
theorem toI_int (k : IntKind) (n : Int) : (D.int k n).toI = n := rfl
theorem toB_bool (b : Bool) : (D.bool b).toB = b := rfl

theorem wrap64 {n : Int} (h1 : -9223372036854775808 ≤ n) (h2 : n ≤ 9223372036854775807) : IntKind.wrap .i64 n = n := by
  rw [IntKind.wrap_i64]; omega
theorem inK64 {n : Int} : inK .i64 n ↔ -9223372036854775808 ≤ n ∧ n ≤ 9223372036854775807 := by
  unfold inK
  have h1 : IntKind.min .i64 = -9223372036854775808 := by rfl
  have h2 : IntKind.max .i64 = 9223372036854775807 := by rfl
  rw [h1, h2]
end Go.Eng
