/-
  What each function of this seat computes, and that it keeps to it.
-/
import Derived.Test.YtpddkmdcmkoofaaEngT
import Derived.Test.YtpddkmdcmkoofaaV
import Derived.KernelRfl
set_option linter.unusedSimpArgs false
namespace Go.Proofs.Ytpddkmdcmkoofaa
open Go Go.Eng Go.Proofs

def I (d : D) (j : Nat) : Int := (d.toL.getD j .top).toI
def L (d : D) (j : Nat) : List D := (d.toL.getD j .top).toL
def within (n lo hi : Int) : Bool := decide (lo ≤ n) && decide (n ≤ hi)
def resOk (c m most : Int) : Bool := within c 0 most && within m 0 most
def M : Int := 1152921504606846976
def sumOk (a b c d : Int) : Bool := resOk a b M && resOk c d M && resOk (a + c) (b + d) M
def addD (x y : D) : D := if sumOk (I x 0) (I x 1) (I y 0) (I y 1) then .tup [.agg [.int .i64 (I x 0 + I y 0), .int .i64 (I x 1 + I y 1)], .bool true] else .tup [.agg [.int .i64 0, .int .i64 0], .bool false]
def grpOk (ty : Int) (g : D) : Bool := within (I g 0) 0 4 && resOk (I g 1) (I g 2) 1099511627776 && (!(ty == 3) || I g 0 == 1)
def jobOk (j : D) : Bool := within (I j 0) 1 1099511627776 && within (I j 1) 1 3 && within (I j 2) 1 100 && within (I j 3) 1 8 && within (L j 4).length 1 2 && (L j 4).all (grpOk (I j 1))
def nodeOk (n : D) : Bool := within (I n 0) 1 4 && resOk (I n 1) (I n 2) 1099511627776 && within (I n 5) 1 1099511627776
def fits (x y z : D) : Bool := sumOk (I x 0) (I x 1) (I y 0) (I y 1) && decide (I x 0 + I y 0 ≤ I z 0) && decide (I x 1 + I y 1 ≤ I z 1)
def sum1 (a b : Int) : D := if within a 0 M && within b 0 M && decide (a + b ≤ M) then .tup [.int .i64 (a + b), .bool true] else .tup [.int .i64 0, .bool false]

def phi (f : Nat) (ds : List D) : D :=
  let a := ds.getD 0 .top; let b := ds.getD 1 .top; let c := ds.getD 2 .top
  match f with
  | 18 => .bool (within a.toI b.toI c.toI)
  | 20 => .bool (within a.toI 0 (I b 0))
  | 17 => .bool (resOk (I a 0) (I a 1) b.toI)
  | 8 | 11 => addD a b
  | 10 | 14 => .int .i64 (if jobOk a then 0 else 30)
  | 15 | 16 => .int .i64 (if nodeOk a then 0 else 31)
  | 12 | 13 => .bool (fits a b c)
  | 19 => sum1 a.toI b.toI
  | _ => .bool true
def pre (_ : Nat) (_ : List D) : Prop := True

theorem mix : Try.prog.follows .mixedOrders = true := by kernel_rfl

def tab18 : List (Nat × Sig) := [(18, withinS)]
theorem c18 : PureFn Try.prog 18 withinS (pre 18) (phi 18) := by
  refine pureFn_of (anns := []) mix (con_nil (Φ := phi) (Pre := pre)) Try.func18 (by kernel_rfl) (v := vc18) (by kernel_rfl) ?_
  intro ds h _
  obtain ⟨a, _, rfl, ⟨a, rfl, ha⟩, b, _, rfl, ⟨b, rfl, hb⟩, c, _, rfl, ⟨c, rfl, hc⟩, rfl⟩ := h
  simp [vc18, VC.holds, den, B.den, phi, within, toI_int, toB_bool]
theorem con18 : Con Try.prog pre phi tab18 := con_cons c18 con_nil

def tab20 : List (Nat × Sig) := (20, okS) :: tab18
theorem c20 : PureFn Try.prog 20 okS (pre 20) (phi 20) := by
  refine pureFn_of (anns := []) mix con18 Try.func20 (by kernel_rfl) (v := vc20) (by kernel_rfl) ?_
  intro ds h _
  obtain ⟨a, _, rfl, ⟨a, rfl, ha⟩, _, _, rfl, ⟨_, rfl, b, _, rfl, ⟨b, rfl, hb⟩, rfl⟩, rfl⟩ := h
  simp [vc20, VC.holds, den, U.den, phi, pre, within, toI_int, toL_list, toL_agg, toL_tup, toL_ptr, toL_fn, I, upd]
theorem con20 : Con Try.prog pre phi tab20 := con_cons c20 con18

def tab17 : List (Nat × Sig) := (17, rS) :: tab20
theorem c17 : PureFn Try.prog 17 rS (pre 17) (phi 17) := by
  refine pureFn_of (anns := []) mix con20 Try.func17 (by kernel_rfl) (v := vc17) (by kernel_rfl) ?_
  intro ds h _
  obtain ⟨_, _, rfl, ⟨_, rfl, a, _, rfl, ⟨a, rfl, ha⟩, b, _, rfl, ⟨b, rfl, hb⟩, rfl⟩, c, _, rfl, ⟨c, rfl, hc⟩, rfl⟩ := h
  simp [vc17, VC.holds, den, U.den, B.den, phi, pre, resOk, within, toI_int, toL_list, toL_agg, toL_tup, toL_ptr, toL_fn, toB_bool, I, upd, condB]
theorem con17 : Con Try.prog pre phi tab17 := con_cons c17 con20

theorem two_ints {d : D} (h : Has resT d) : ∃ a b, d = .agg [.int .i64 a, .int .i64 b] ∧ inK .i64 a ∧ inK .i64 b := by
  obtain ⟨_, rfl, a, _, rfl, ⟨a, rfl, ha⟩, b, _, rfl, ⟨b, rfl, hb⟩, rfl⟩ := h
  exact ⟨a, b, rfl, ha, hb⟩

theorem resOk_le {x y m : Int} (h : resOk x y m = true) : 0 ≤ x ∧ x ≤ m ∧ 0 ≤ y ∧ y ≤ m := by
  simp only [resOk, within, Bool.and_eq_true, decide_eq_true_eq] at h; omega
theorem has_job {d : D} (h : Has jobT d) : ∃ (a b c e : Int) (l : List D) (v : Int) (s : Bool), d = .agg [.int .i64 a, .int .i64 b, .int .i64 c, .int .i64 e, .list l, .int .i64 v, .bool s] ∧ l.length ≤ maxLen ∧ ∀ x ∈ l, Has groupT x := by
  obtain ⟨_, rfl, _, _, rfl, ⟨a, rfl, _⟩, _, _, rfl, ⟨b, rfl, _⟩, _, _, rfl, ⟨c, rfl, _⟩, _, _, rfl, ⟨e, rfl, _⟩, _, _, rfl, ⟨l, rfl, hl, hx⟩, _, _, rfl, ⟨v, rfl, _⟩, _, _, rfl, ⟨s, rfl⟩, rfl⟩ := h
  exact ⟨a, b, c, e, l, v, s, rfl, hl, hx⟩
theorem has_group {d : D} (h : Has groupT d) : ∃ (a b c : Int), d = .agg [.int .i64 a, .int .i64 b, .int .i64 c] := by
  obtain ⟨_, rfl, _, _, rfl, ⟨a, rfl, _⟩, _, _, rfl, ⟨b, rfl, _⟩, _, _, rfl, ⟨c, rfl, _⟩, rfl⟩ := h
  exact ⟨a, b, c, rfl⟩
theorem has_node {x : D} (h : Has nodeT x) : ∃ (a b c : Int) (u v : Bool) (d e f : Int), x = .agg [.int .i64 a, .int .i64 b, .int .i64 c, .bool u, .bool v, .int .i64 d, .int .i64 e, .int .i64 f] := by
  obtain ⟨_, rfl, _, _, rfl, ⟨a, rfl, _⟩, _, _, rfl, ⟨b, rfl, _⟩, _, _, rfl, ⟨c, rfl, _⟩, _, _, rfl, ⟨u, rfl⟩, _, _, rfl, ⟨v, rfl⟩, _, _, rfl, ⟨d, rfl, _⟩, _, _, rfl, ⟨e, rfl, _⟩, _, _, rfl, ⟨f, rfl, _⟩, rfl⟩ := h
  exact ⟨a, b, c, u, v, d, e, f, rfl⟩

def tab8 : List (Nat × Sig) := (8, addS) :: tab17
theorem c8 : PureFn Try.prog 8 addS (pre 8) (phi 8) := by
  refine pureFn_of (anns := []) mix con17 Try.func8 (by kernel_rfl) (v := vc8) (by kernel_rfl) ?_
  intro ds h _
  obtain ⟨x, _, rfl, hx, y, _, rfl, hy, rfl⟩ := h
  obtain ⟨a, b, rfl, ha, hb⟩ := two_ints hx
  obtain ⟨c, d, rfl, hc, hd⟩ := two_ints hy
  rw [inK64] at ha hb hc hd
  simp only [vc8, VC.holds, pre, implies_true, true_and, forall_eq]
  simp [den, U.den, B.den, phi, addD, sumOk, toI_int, toL_list, toL_agg, toL_tup, toL_ptr, toL_fn, toB_bool, I, upd, M]
  refine ⟨fun h => by rcases h with h | h <;> simp [h], fun h1 h2 => ?_⟩
  have b1 := resOk_le h1
  have b2 := resOk_le h2
  rw [wrap64 (by omega) (by omega), wrap64 (by omega) (by omega)]
  exact ⟨fun h => by simp [h], fun h => by simp [h1, h2, h]⟩
theorem con8 : Con Try.prog pre phi tab8 := con_cons c8 con17

def tab15 : List (Nat × Sig) := (15, nodeS) :: tab8
theorem c15 : PureFn Try.prog 15 nodeS (pre 15) (phi 15) := by
  refine pureFn_of (anns := []) mix con8 Try.func15 (by kernel_rfl) (v := vc15) (by kernel_rfl) ?_
  intro ds h _
  obtain ⟨x, _, rfl, hx, rfl⟩ := h
  obtain ⟨a, b, c, u, v, d, e, f, rfl⟩ := has_node hx
  simp only [vc15, VC.holds, pre, implies_true, true_and, forall_eq]
  simp [den, U.den, B.den, phi, nodeOk, toI_int, toL_list, toL_agg, toL_tup, toL_ptr, toL_fn, toB_bool, I, upd]
  constructor
  · rintro ((h | h) | h) <;> simp [h]
  · intro h1 h2 h3; simp [h1, h2, h3]
theorem con15 : Con Try.prog pre phi tab15 := con_cons c15 con8

def tab16 : List (Nat × Sig) := (16, nodeS) :: tab15
theorem c16 : PureFn Try.prog 16 nodeS (pre 16) (phi 16) := by
  refine pureFn_of (anns := []) mix con15 Try.func16 (by kernel_rfl) (v := vc16) (by kernel_rfl) ?_
  intro ds h _
  obtain ⟨x, _, rfl, hx, rfl⟩ := h
  obtain ⟨a, b, c, u, v, d, e, f, rfl⟩ := has_node hx
  simp only [vc16, VC.holds, pre, implies_true, true_and, forall_eq]
  simp only [den, U.den, B.den, phi, nodeOk, toI_int, toL_list, toL_agg, toL_tup, toL_ptr, toL_fn, toB_bool, I, upd, resOk, within, List.getD_cons_zero, List.getD_cons_succ, Bool.or_eq_true, Bool.or_eq_false_iff, decide_eq_true_eq, decide_eq_false_iff_not, Bool.and_eq_true]
  constructor
  · intro h
    rw [if_neg (by omega)]
  · intro h
    rw [if_pos (by omega)]
theorem con16 : Con Try.prog pre phi tab16 := con_cons c16 con15

def tab19 : List (Nat × Sig) := (19, sumS) :: tab16
theorem c19 : PureFn Try.prog 19 sumS (pre 19) (phi 19) := by
  refine pureFn_of (anns := []) mix con16 Try.func19 (by kernel_rfl) (v := vc19) (by kernel_rfl) ?_
  intro ds h _
  obtain ⟨_, _, rfl, ⟨a, rfl, ha⟩, _, _, rfl, ⟨b, rfl, hb⟩, rfl⟩ := h
  rw [inK64] at ha hb
  simp only [vc19, VC.holds, pre, implies_true, true_and, forall_eq]
  simp only [den, U.den, B.den, phi, sum1, M, toI_int, toL_list, toL_agg, toL_tup, toL_ptr, toL_fn, toB_bool, within, List.getD_cons_zero, List.getD_cons_succ, Bool.or_eq_true, Bool.or_eq_false_iff, decide_eq_true_eq, decide_eq_false_iff_not, Bool.and_eq_true]
  constructor
  · intro h
    rw [if_neg]
    intro h2
    rcases h with h | h
    · omega
    · rw [wrap64 (by omega) (by omega)] at h; omega
  · rintro ⟨h, h2⟩
    rw [wrap64 (by omega) (by omega)] at h2 ⊢
    rw [if_pos (by omega)]
theorem con19 : Con Try.prog pre phi tab19 := con_cons c19 con16

def tab11 : List (Nat × Sig) := (11, addS) :: tab19
theorem c11 : PureFn Try.prog 11 addS (pre 11) (phi 11) := by
  refine pureFn_of (anns := []) mix con19 Try.func11 (by kernel_rfl) (v := vc11) (by kernel_rfl) ?_
  intro ds h _
  obtain ⟨x, _, rfl, hx, y, _, rfl, hy, rfl⟩ := h
  obtain ⟨a, b, rfl, ha, hb⟩ := two_ints hx
  obtain ⟨c, d, rfl, hc, hd⟩ := two_ints hy
  simp only [vc11, VC.holds, pre, implies_true, true_and, forall_eq]
  have hs : ∀ x y : Int, sum1 x y = .tup [.int .i64 (if 0 ≤ x ∧ x ≤ 1152921504606846976 ∧ 0 ≤ y ∧ y ≤ 1152921504606846976 ∧ x + y ≤ 1152921504606846976 then x + y else 0), .bool (decide (0 ≤ x ∧ x ≤ 1152921504606846976 ∧ 0 ≤ y ∧ y ≤ 1152921504606846976 ∧ x + y ≤ 1152921504606846976))] := by
    intro x y
    unfold sum1 within M
    by_cases h : 0 ≤ x ∧ x ≤ 1152921504606846976 ∧ 0 ≤ y ∧ y ≤ 1152921504606846976 ∧ x + y ≤ 1152921504606846976
    · rw [if_pos (by simp; omega), if_pos h]; simp [h]
    · rw [if_neg (by simp; omega), if_neg h]; simp [h]
  have hso : sumOk a b c d = (decide (0 ≤ a ∧ a ≤ 1152921504606846976 ∧ 0 ≤ c ∧ c ≤ 1152921504606846976 ∧ a + c ≤ 1152921504606846976) && decide (0 ≤ b ∧ b ≤ 1152921504606846976 ∧ 0 ≤ d ∧ d ≤ 1152921504606846976 ∧ b + d ≤ 1152921504606846976)) := by
    rw [Bool.eq_iff_iff]
    have hM : M = 1152921504606846976 := rfl
    simp only [sumOk, resOk, within, Bool.and_eq_true, decide_eq_true_eq]
    constructor
    · rintro ⟨⟨⟨⟨_, _⟩, _, _⟩, ⟨_, _⟩, _, _⟩, ⟨_, _⟩, _, _⟩; omega
    · rintro ⟨⟨_, _, _, _, _⟩, _, _, _, _, _⟩; omega
  by_cases p : 0 ≤ a ∧ a ≤ 1152921504606846976 ∧ 0 ≤ c ∧ c ≤ 1152921504606846976 ∧ a + c ≤ 1152921504606846976
  · by_cases q : 0 ≤ b ∧ b ≤ 1152921504606846976 ∧ 0 ≤ d ∧ d ≤ 1152921504606846976 ∧ b + d ≤ 1152921504606846976
    · rw [decide_eq_true p, decide_eq_true q] at hso
      simp [upd, den, U.den, B.den, phi, hs, addD, I, hso, if_pos p, if_pos q, decide_eq_true p, decide_eq_true q, toL_tup, toI_int, toB_bool, toL_agg, toL_list]
    · rw [decide_eq_true p, decide_eq_false q] at hso
      simp [upd, den, U.den, B.den, phi, hs, addD, I, hso, decide_eq_true p, decide_eq_false q, toL_tup, toI_int, toB_bool, toL_agg, toL_list]
  · rw [decide_eq_false p] at hso
    simp [upd, den, U.den, B.den, phi, hs, addD, I, hso, decide_eq_false p, toL_tup, toI_int, toB_bool, toL_agg, toL_list]
theorem con11 : Con Try.prog pre phi tab11 := con_cons c11 con19

def tab12 : List (Nat × Sig) := (12, fitsS) :: tab11
theorem c12 : PureFn Try.prog 12 fitsS (pre 12) (phi 12) := by
  refine pureFn_of (anns := []) mix con11 Try.func12 (by kernel_rfl) (v := vc12) (by kernel_rfl) ?_
  intro ds h _
  obtain ⟨x, _, rfl, hx, y, _, rfl, hy, z, _, rfl, hz, rfl⟩ := h
  obtain ⟨a, b, rfl, ha, hb⟩ := two_ints hx
  obtain ⟨c, d, rfl, hc, hd⟩ := two_ints hy
  obtain ⟨e, f, rfl, he, hf⟩ := two_ints hz
  simp only [vc12, VC.holds, pre, implies_true, true_and, forall_eq]
  simp [den, U.den, B.den, phi, addD, fits, toI_int, toL_list, toL_agg, toL_tup, toL_ptr, toL_fn, toB_bool, I, upd]
  cases hs : sumOk a b c d <;> simp [toL_tup, toI_int, toB_bool, toL_agg, toL_list]
theorem con12 : Con Try.prog pre phi tab12 := con_cons c12 con11
def tab13 : List (Nat × Sig) := (13, fitsS) :: tab12
theorem c13 : PureFn Try.prog 13 fitsS (pre 13) (phi 13) := by
  refine pureFn_of (anns := []) mix con12 Try.func13 (by kernel_rfl) (v := vc13) (by kernel_rfl) ?_
  intro ds h _
  obtain ⟨x, _, rfl, hx, y, _, rfl, hy, z, _, rfl, hz, rfl⟩ := h
  obtain ⟨a, b, rfl, ha, hb⟩ := two_ints hx
  obtain ⟨c, d, rfl, hc, hd⟩ := two_ints hy
  obtain ⟨e, f, rfl, he, hf⟩ := two_ints hz
  simp only [vc13, VC.holds, pre, implies_true, true_and, forall_eq]
  simp [den, U.den, B.den, phi, addD, fits, toI_int, toL_list, toL_agg, toL_tup, toL_ptr, toL_fn, toB_bool, I, upd]
  cases hs : sumOk a b c d <;> simp [toL_tup, toI_int, toB_bool, toL_agg, toL_list]
theorem con13 : Con Try.prog pre phi tab13 := con_cons c13 con12

theorem all_take_succ {l : List D} {p : D → Bool} {i : Nat} {d : D} (h : l[i]? = some d) : (l.take (i + 1)).all p = ((l.take i).all p && p d) := by
  rw [List.take_add_one, h]
  simp

theorem bound_of {l : List D} {i : Nat} (hl : l.length ≤ maxLen) (hi : i < l.length) : IntKind.wrap .i64 ((i : Int) + 1) = ((i + 1 : Nat) : Int) := by
  have : maxLen ≤ 9223372036854775807 := by decide
  rw [wrap64 (by omega) (by omega)]; omega

def tab10 : List (Nat × Sig) := (10, jobS) :: tab13
theorem c10 : PureFn Try.prog 10 jobS (pre 10) (phi 10) := by
  refine pureFn_of (anns := []) mix con13 Try.func10 (by kernel_rfl) (v := vc10) (by kernel_rfl) ?_
  intro ds h _
  obtain ⟨x, _, rfl, hx, rfl⟩ := h
  obtain ⟨a, b, c, e, l, v, s, rfl, hl, hg⟩ := has_job hx
  simp only [vc10, VC.holds, pre, implies_true, true_and, forall_eq]
  refine ⟨fun xs => ∃ i : Nat, i ≤ l.length ∧ xs = [.bool (within a 1 1099511627776 && within b 1 3 && within c 1 100 && within e 1 8 && within l.length 1 2 && (l.take i).all (grpOk b)), .int .i64 i], fun xs => l.length - (I (.list xs) 1).toNat, ?_, ?_⟩
  · refine ⟨0, Nat.zero_le _, ?_⟩
    simp [den, U.den, B.den, phi, toI_int, toL_list, toL_agg, toL_tup, toL_ptr, toL_fn, toB_bool, I, upd]
  · rintro _ _ ⟨i, hi, rfl⟩
    by_cases hlt : i < l.length
    · obtain ⟨g1, g2, g3, hgi⟩ := has_group (hg l[i] (List.getElem_mem hlt))
      have hgo : l[i]? = some (.agg [.int .i64 g1, .int .i64 g2, .int .i64 g3]) := by rw [List.getElem?_eq_getElem hlt, hgi]
      have hw := bound_of hl hlt
      simp [updV, den, U.den, B.den, toB_bool, toI_int, toL_list, toL_agg, toL_tup, toL_ptr, toL_fn, upd, condB, phi, hlt, hgo, hw]
      refine ⟨⟨i + 1, hlt, ?_, rfl⟩, ?_⟩
      · rw [all_take_succ hgo]
        simp [grpOk, I, toL_list, toL_agg, toL_tup, toL_ptr, toL_fn, toI_int, Bool.and_assoc, hgi]; cases hb : b == 3 <;> simp [hb, bne]
      · simp [I, toL_list, toL_agg, toL_tup, toL_ptr, toL_fn, toI_int]; omega
    · have : i = l.length := by omega
      subst this
      simp [updV, den, U.den, B.den, toB_bool, toI_int, toL_list, toL_agg, toL_tup, toL_ptr, toL_fn, upd, condB, phi, jobOk, I, L]
      constructor
      · intro h1 h2 h3 h4 h5 h6
        rcases h1 with ((((h | h) | h) | h) | h) | h
        · rw [h] at h2; cases h2
        · rw [h] at h3; cases h3
        · rw [h] at h4; cases h4
        · rw [h] at h5; cases h5
        · rw [h] at h6; cases h6
        · exact h
      · intro h1 h2 h3 h4 h5; simp [h1, h2, h3, h4, h5]
theorem con10 : Con Try.prog pre phi tab10 := con_cons c10 con13

def tab14 : List (Nat × Sig) := (14, jobS) :: tab10
theorem c14 : PureFn Try.prog 14 jobS (pre 14) (phi 14) := by
  refine pureFn_of (anns := []) mix con10 Try.func14 (by kernel_rfl) (v := vc14) (by kernel_rfl) ?_
  intro ds h _
  obtain ⟨x, _, rfl, hx, rfl⟩ := h
  obtain ⟨a, b, c, e, l, v, s, rfl, hl, hg⟩ := has_job hx
  simp only [vc14, VC.holds, den, U.den, B.den, toB_bool, toI_int, toL_agg, toL_list, List.getD_cons_zero, List.getD_cons_succ, Bool.or_eq_true, Bool.or_eq_false_iff, decide_eq_true_eq, decide_eq_false_iff_not]
  have hj : ∀ d : D, d = .agg [.int .i64 a, .int .i64 b, .int .i64 c, .int .i64 e, .list l, .int .i64 v, .bool s] → (phi 14 [d] = .int .i64 (if jobOk d then 0 else 30)) ∧ jobOk d = (within a 1 1099511627776 && within b 1 3 && within c 1 100 && within e 1 8 && within l.length 1 2 && l.all (grpOk b)) := by
    rintro d rfl
    exact ⟨rfl, by simp [jobOk, I, L, toL_agg, toI_int, toL_list]⟩
  obtain ⟨e1, e2⟩ := hj _ rfl
  rw [e1, e2]
  constructor
  · intro h
    have : (within a 1 1099511627776 && within b 1 3 && within c 1 100 && within e 1 8) = false := by
      rw [Bool.eq_false_iff]; simp only [within, ne_eq, Bool.and_eq_true, decide_eq_true_eq]; omega
    rw [this]; simp
  · intro h
    have t1 : (within a 1 1099511627776 && within b 1 3 && within c 1 100 && within e 1 8) = true := by
      simp only [within, Bool.and_eq_true, decide_eq_true_eq]; omega
    rw [t1, Bool.true_and]
    constructor
    · intro h2
      have : within l.length 1 2 = false := by rw [Bool.eq_false_iff]; simp only [within, ne_eq, Bool.and_eq_true, decide_eq_true_eq]; omega
      rw [this]; simp
    · intro h2
      have : within l.length 1 2 = true := by simp only [within, Bool.and_eq_true, decide_eq_true_eq]; omega
      rw [this, Bool.true_and]
      obtain ⟨J, hJ⟩ : ∃ J : List D → Prop, ∀ xs, J xs ↔ ∃ (i : Nat) (k : Int), i ≤ l.length ∧ xs = [.int .i64 k, .int .i64 i] ∧ (l.take i).all (grpOk b) = true := ⟨_, fun _ => Iff.rfl⟩
      obtain ⟨m, hm⟩ : ∃ m : List D → Nat, ∀ (i : Nat) k, m [.int .i64 k, .int .i64 i] = l.length - i := ⟨fun xs => l.length - (I (.list xs) 1).toNat, fun _ _ => rfl⟩
      refine ⟨J, m, (hJ _).2 ⟨0, 0, Nat.zero_le _, rfl, rfl⟩, ?_⟩
      intro _ _ hx
      obtain ⟨i, k, hi, rfl, hall⟩ := (hJ _).1 hx
      by_cases hlt : i < l.length
      · obtain ⟨g1, g2, g3, hgi⟩ := has_group (hg l[i] (List.getElem_mem hlt))
        have hgo : l[i]? = some (.agg [.int .i64 g1, .int .i64 g2, .int .i64 g3]) := by rw [List.getElem?_eq_getElem hlt, hgi]
        have hw := bound_of hl hlt
        have hnot : grpOk b (.agg [.int .i64 g1, .int .i64 g2, .int .i64 g3]) = false → l.all (grpOk b) = false := fun hh => by
          rw [Bool.eq_false_iff, ne_eq, List.all_eq_true]
          intro ha
          have := ha _ (List.mem_of_getElem? hgo)
          rw [hh] at this; cases this
        have hgb : grpOk b (.agg [.int .i64 g1, .int .i64 g2, .int .i64 g3]) = (within g1 0 4 && resOk g2 g3 1099511627776 && (!(b == 3) || g1 == 1)) := by simp [grpOk, I, toL_agg, toI_int]
        rw [hgb] at hnot
        have hnext : grpOk b (.agg [.int .i64 g1, .int .i64 g2, .int .i64 g3]) = true → (l.take (i + 1)).all (grpOk b) = true := fun hh => by rw [all_take_succ hgo, hall, hh]; rfl
        rw [hgb] at hnext
        generalize l.all (grpOk b) = A at *
        generalize hT : (l.take (i + 1)).all (grpOk b) = T at *
        simp [updV, den, U.den, B.den, hlt, hgo, hw, hgi, toL_agg, toI_int, toL_list, toB_bool]
        constructor
        · intro h3
          have : (within g1 0 4 && resOk g2 g3 1099511627776) = false := by rw [Bool.eq_false_iff]; simp only [within, resOk, ne_eq, Bool.and_eq_true, decide_eq_true_eq]; omega
          rw [this] at hnot
          exact hnot rfl
        · intro h3 h4 h5 h6 h7 h8
          have t3 : (within g1 0 4 && resOk g2 g3 1099511627776) = true := by simp only [within, resOk, Bool.and_eq_true, decide_eq_true_eq]; omega
          rw [t3, Bool.true_and] at hnot hnext
          refine ⟨fun hb hg => hnot (by simp [hb, hg]), fun hb => ?_⟩
          refine ⟨(hJ _).2 ⟨i + 1, k, hlt, rfl, ?_⟩, ?_⟩
          · rw [hT]; exact hnext (by by_cases hb3 : b = 3 <;> simp [hb3, hb])
          · have := hm (i + 1) k
            rw [Int.natCast_add] at this
            have h2 := hm i k
            simp only [Int.natCast_one] at this
            rw [this, h2]; omega
      · have : i = l.length := by omega
        subst this
        rw [List.take_length] at hall
        rw [hall]
        simp [updV, den, U.den, B.den, toL_agg, toI_int, toL_list, toB_bool]
theorem con14 : Con Try.prog pre phi tab14 := con_cons c14 con10

end Go.Proofs.Ytpddkmdcmkoofaa
