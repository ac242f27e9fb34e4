/-
  Plain laws for what is looked for in lists.
-/
import Derived.Test.YtjpkeliliahjoaaEngV
namespace Go.Eng
open Go Go.RowKit

def I (d : D) (j : Nat) : Int := (d.toL.getD j .top).toI
def L (d : D) (j : Nat) : List D := (d.toL.getD j .top).toL
def fnId : D → Nat
  | .fn f _ => f
  | _ => 0

/-- The place of the first that is such; -1: there is none. -/
def findI (p : D → Bool) (l : List D) : Int := match l.findIdx? p with
  | some i => i
  | none => -1

theorem findI_none {p : D → Bool} {l : List D} (h : (l.all fun x => !p x) = true) : findI p l = -1 := by
  have : l.findIdx? p = none := by
    rw [List.findIdx?_eq_none_iff]
    intro x hx
    simpa using List.all_eq_true.1 h x hx
  unfold findI; rw [this]
theorem findI_hit {p : D → Bool} {l : List D} {i : Nat} {d : D} (h : ((l.take i).all fun x => !p x) = true) (hi : l[i]? = some d) (hp : p d = true) : findI p l = i := by
  obtain ⟨hlt, hd⟩ := List.getElem?_eq_some_iff.1 hi
  have : l.findIdx? p = some i := by
    rw [List.findIdx?_eq_some_iff_getElem]
    refine ⟨hlt, by rw [hd]; exact hp, fun j hj => ?_⟩
    have := List.all_eq_true.1 h (l[j]'(by omega)) (by rw [List.mem_take_iff_getElem]; exact ⟨j, by omega, rfl⟩)
    simpa using this
  unfold findI; rw [this]
theorem findI_cases (p : D → Bool) (l : List D) : findI p l = -1 ∨ ∃ (i : Nat) (h : i < l.length), findI p l = i ∧ p l[i] = true := by
  unfold findI
  cases h : l.findIdx? p with
  | none => exact .inl rfl
  | some i =>
    obtain ⟨hlt, hp, _⟩ := List.findIdx?_eq_some_iff_getElem.1 h
    exact .inr ⟨i, hlt, rfl, hp⟩
theorem findI_cong {p q : D → Bool} {l : List D} (h : ∀ x ∈ l, p x = q x) : findI p l = findI q l := by
  unfold findI
  have : l.findIdx? p = l.findIdx? q := by
    induction l with
    | nil => rfl
    | cons a l ih =>
      rw [List.findIdx?_cons, List.findIdx?_cons, h a (by simp), ih (fun x hx => h x (by simp [hx]))]
  rw [this]

theorem all_take_succ {l : List D} {p : D → Bool} {i : Nat} {d : D} (h : l[i]? = some d) : (l.take (i + 1)).all p = ((l.take i).all p && p d) := by
  rw [List.take_add_one, h]
  simp
theorem next64 {i n : Nat} (hn : n ≤ maxLen) (hi : i < n) : IntKind.wrap .i64 ((i : Int) + 1) = (i : Int) + 1 := by
  have : maxLen ≤ 9223372036854775807 := by decide
  exact wrap64 (by omega) (by omega)
/-- A loop that looks for the first: its rounds. -/
def Seek (p : D → Bool) (l : List D) (xs : List D) : Prop := ∃ (i : Nat) (k : Int), i ≤ l.length ∧ xs = [.int .i64 k, .int .i64 i] ∧ ((l.take i).all fun x => !p x) = true
def seekM (l : List D) (xs : List D) : Nat := l.length - (I (.list xs) 1).toNat
theorem seek_start (p : D → Bool) (l : List D) : Seek p l [.int .i64 0, .int .i64 0] := ⟨0, 0, Nat.zero_le _, rfl, rfl⟩
theorem seek_step {p : D → Bool} {l : List D} {i : Nat} {k : Int} {d : D} (h : Seek p l [.int .i64 k, .int .i64 i]) (hi : l[i]? = some d) (hp : p d = false) :
    Seek p l [.int .i64 k, .int .i64 ((i : Int) + 1)] ∧ seekM l [.int .i64 k, .int .i64 ((i : Int) + 1)] < seekM l [.int .i64 k, .int .i64 i] := by
  obtain ⟨hlt, _⟩ := List.getElem?_eq_some_iff.1 hi
  obtain ⟨i', k', _, he, ha⟩ := h
  simp only [List.cons.injEq, D.int.injEq, true_and, and_true] at he
  obtain ⟨rfl, he⟩ := he
  have : i = i' := by omega
  subst this
  refine ⟨⟨i + 1, k, hlt, by simp, ?_⟩, ?_⟩
  · rw [all_take_succ hi, ha, hp]; rfl
  · show l.length - ((i : Int) + 1).toNat < l.length - (i : Int).toNat
    omega
theorem seek_hit {p : D → Bool} {l : List D} {i : Nat} {k : Int} {d : D} (h : Seek p l [.int .i64 k, .int .i64 i]) (hi : l[i]? = some d) (hp : p d = true) : findI p l = i := by
  obtain ⟨i', k', _, he, ha⟩ := h
  simp only [List.cons.injEq, D.int.injEq, true_and, and_true] at he
  obtain ⟨_, he⟩ := he
  have : i = i' := by omega
  subst this
  exact findI_hit ha hi hp
theorem seek_end {p : D → Bool} {l : List D} {i : Nat} {k : Int} (h : Seek p l [.int .i64 k, .int .i64 i]) (hi : l.length ≤ i) : findI p l = -1 := by
  obtain ⟨i', k', hle, he, ha⟩ := h
  simp only [List.cons.injEq, D.int.injEq, true_and, and_true] at he
  obtain ⟨_, he⟩ := he
  have : i' = l.length := by omega
  subst this
  rw [List.take_length] at ha
  exact findI_none ha
theorem seek_inv {p : D → Bool} {l : List D} {xs : List D} (h : Seek p l xs) : ∃ (i : Nat) (k : Int), i ≤ l.length ∧ xs = [.int .i64 k, .int .i64 i] := by
  obtain ⟨i, k, h1, h2, _⟩ := h; exact ⟨i, k, h1, h2⟩
end Go.Eng
