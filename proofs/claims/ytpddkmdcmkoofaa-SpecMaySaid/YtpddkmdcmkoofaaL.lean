/-
  The laws of this seat, by the engine: each function of a law gives true, whatever its arguments.
-/
import Derived.Test.YtpddkmdcmkoofaaC
set_option linter.unusedSimpArgs false
namespace Go.Proofs.Ytpddkmdcmkoofaa
open Go Go.Eng Go.Proofs

def tab9 : List (Nat × Sig) := (9, livesS) :: tab14
theorem c9 : PureFn Try.prog 9 livesS (pre 9) (phi 9) := by
  refine pureFn_of (anns := []) mix con14 Try.func9 (by kernel_rfl) (v := vc9) (by kernel_rfl) ?_
  intro ds h _
  obtain rfl := has_nil.1 h
  simp only [vc9, VC.holds, pre, implies_true, true_and, forall_eq]
  rfl
theorem con9 : Con Try.prog pre phi tab9 := con_cons c9 con14

theorem c5 : PureFn Try.prog 5 fitsS (pre 5) (phi 5) := by
  refine pureFn_of (anns := []) mix con9 Try.func5 (by kernel_rfl) (v := vc5) (by kernel_rfl) ?_
  intro ds h _
  obtain ⟨x, _, rfl, hx, y, _, rfl, hy, z, _, rfl, hz, rfl⟩ := h
  obtain ⟨a, b, rfl, ha, hb⟩ := two_ints hx
  obtain ⟨c, d, rfl, hc, hd⟩ := two_ints hy
  obtain ⟨e, f, rfl, he, hf⟩ := two_ints hz
  simp only [vc5, VC.holds, pre, implies_true, true_and, forall_eq]
  simp [den, U.den, B.den, phi, upd, toL_agg, toL_list, toL_tup, toI_int, toB_bool]

theorem c7 : PureFn Try.prog 7 ⟨[jobT, nodeT], [boolR]⟩ (pre 7) (phi 7) := by
  refine pureFn_of (anns := []) mix con9 Try.func7 (by kernel_rfl) (v := vc7) (by kernel_rfl) ?_
  intro ds h _
  obtain ⟨x, _, rfl, hx, y, _, rfl, hy, rfl⟩ := h
  simp only [vc7, VC.holds, pre, implies_true, true_and, forall_eq]
  simp [den, U.den, B.den, phi, upd, toL_agg, toL_list, toL_tup, toI_int, toB_bool]

theorem addT {a b c d : Int} (h : sumOk a b c d = true) : addD (.agg [.int .i64 a, .int .i64 b]) (.agg [.int .i64 c, .int .i64 d]) = .tup [.agg [.int .i64 (a + c), .int .i64 (b + d)], .bool true] := by
  show (if sumOk a b c d = true then _ else _) = _
  rw [if_pos h]; rfl
theorem addF {a b c d : Int} (h : sumOk a b c d = false) : addD (.agg [.int .i64 a, .int .i64 b]) (.agg [.int .i64 c, .int .i64 d]) = .tup [.agg [.int .i64 0, .int .i64 0], .bool false] := by
  show (if sumOk a b c d = true then _ else _) = _
  rw [if_neg (by rw [h]; simp)]
theorem sumOk_iff {a b c d : Int} : sumOk a b c d = true ↔ (0 ≤ a ∧ 0 ≤ b ∧ 0 ≤ c ∧ 0 ≤ d ∧ a + c ≤ 1152921504606846976 ∧ b + d ≤ 1152921504606846976) := by
  have hM : M = 1152921504606846976 := rfl
  simp only [sumOk, resOk, within, Bool.and_eq_true, decide_eq_true_eq]
  constructor
  · rintro ⟨⟨⟨⟨_, _⟩, _, _⟩, ⟨_, _⟩, _, _⟩, ⟨_, _⟩, _, _⟩; omega
  · rintro ⟨_, _, _, _, _, _⟩; omega
theorem sumOk_comm (a b c d : Int) : sumOk a b c d = sumOk c d a b := by
  rw [Bool.eq_iff_iff, sumOk_iff, sumOk_iff]; omega
theorem fits_mk (a b c d e f : Int) : fits (.agg [.int .i64 a, .int .i64 b]) (.agg [.int .i64 c, .int .i64 d]) (.agg [.int .i64 e, .int .i64 f]) = (sumOk a b c d && decide (a + c ≤ e) && decide (b + d ≤ f)) := rfl

theorem c6 : PureFn Try.prog 6 pairS (pre 6) (phi 6) := by
  refine pureFn_of (anns := []) mix con9 Try.func6 (by kernel_rfl) (v := vc6) (by kernel_rfl) ?_
  intro ds h _
  obtain ⟨x, _, rfl, ⟨_, rfl, _, _, rfl, ⟨a, rfl, _⟩, _, _, rfl, ⟨b, rfl, _⟩, _, _, rfl, ⟨c, rfl, _⟩, _, _, rfl, ⟨d, rfl, _⟩, rfl⟩,
    y, _, rfl, ⟨_, rfl, _, _, rfl, ⟨e, rfl, _⟩, _, _, rfl, ⟨f, rfl, _⟩, _, _, rfl, ⟨g, rfl, _⟩, _, _, rfl, ⟨i, rfl, _⟩, rfl⟩, rfl⟩ := h
  simp only [vc6, VC.holds, pre, implies_true, true_and, forall_eq]
  cases h1 : sumOk a b c d with
  | false =>
    have h1' := h1; rw [sumOk_comm] at h1'
    simp [den, U.den, B.den, phi, upd, toL_agg, toL_list, toL_tup, toI_int, toB_bool, addF h1, addF h1', fits_mk]
  | true =>
    have h1' := h1; rw [sumOk_comm] at h1'
    have k1 := sumOk_iff.1 h1
    cases h2 : sumOk c d e f with
    | false =>
      simp [den, U.den, B.den, phi, upd, toL_agg, toL_list, toL_tup, toI_int, toB_bool, addT h1, addT h1', addF h2, fits_mk, Int.add_comm c a, Int.add_comm d b]
      intro h3 _ _
      have k3 := sumOk_iff.1 h3
      have : sumOk a b e f = true := sumOk_iff.2 (by omega)
      exact ⟨⟨this, by omega⟩, by omega⟩
    | true =>
      have k2 := sumOk_iff.1 h2
      cases h3 : sumOk (a + c) (b + d) e f with
      | false =>
        have h4 : sumOk a b (c + e) (d + f) = false := by
          rw [Bool.eq_false_iff]; intro h
          have := sumOk_iff.1 h
          have : sumOk (a + c) (b + d) e f = true := sumOk_iff.2 (by omega)
          rw [h3] at this; cases this
        simp [den, U.den, B.den, phi, upd, toL_agg, toL_list, toL_tup, toI_int, toB_bool, addT h1, addT h1', addT h2, addF h3, addF h4, h3, fits_mk, Int.add_comm c a, Int.add_comm d b]
      | true =>
        have k3 := sumOk_iff.1 h3
        have h4 : sumOk a b (c + e) (d + f) = true := sumOk_iff.2 (by omega)
        have h5 : sumOk a b e f = true := sumOk_iff.2 (by omega)
        simp [den, U.den, B.den, phi, upd, toL_agg, toL_list, toL_tup, toI_int, toB_bool, addT h1, addT h1', addT h2, addT h3, addT h4, h3, h5, fits_mk, Int.add_comm c a, Int.add_comm d b, Int.add_assoc]
        omega

theorem job_ty {a t c e v : Int} {l : List D} {s : Bool} : jobOk (.agg [.int .i64 a, .int .i64 t, .int .i64 c, .int .i64 e, .list l, .int .i64 v, .bool s]) = (within a 1 1099511627776 && within t 1 3 && within c 1 100 && within e 1 8 && within l.length 1 2 && l.all (grpOk t)) := rfl
theorem all_cong {l : List D} {p q : D → Bool} (h : ∀ x, p x = q x) : l.all p = l.all q := by
  have : p = q := funext h
  rw [this]
theorem all_and {l : List D} {p q : D → Bool} : (l.all fun x => p x && q x) = (l.all p && l.all q) := by
  induction l with
  | nil => rfl
  | cons a l ih => simp only [List.all_cons, ih]; cases p a <;> cases q a <;> simp

theorem c4 : PureFn Try.prog 4 ⟨[jobT], [boolR]⟩ (pre 4) (phi 4) := by
  refine pureFn_of (anns := []) mix con9 Try.func4 (by kernel_rfl) (v := vc4) (by kernel_rfl) ?_
  intro ds h _
  obtain ⟨x, _, rfl, hx, rfl⟩ := h
  obtain ⟨a, b, c, e, l, v, s, rfl, hl, hg⟩ := has_job hx
  obtain ⟨A, hA⟩ : ∃ A : Bool, A = (within a 1 1099511627776 && within c 1 100 && within e 1 8 && within l.length 1 2 && l.all (grpOk 1)) := ⟨_, rfl⟩
  have j1 : jobOk (.agg [.int .i64 a, .int .i64 1, .int .i64 c, .int .i64 e, .list l, .int .i64 v, .bool s]) = A := by
    rw [job_ty, hA, show within 1 1 3 = true from rfl, Bool.and_true]
  have j2 : jobOk (.agg [.int .i64 a, .int .i64 2, .int .i64 c, .int .i64 e, .list l, .int .i64 v, .bool s]) = A := by
    rw [job_ty, hA, show within 2 1 3 = true from rfl, Bool.and_true, all_cong (p := grpOk 2) (q := grpOk 1) (fun x => rfl)]
  have j3 : jobOk (.agg [.int .i64 a, .int .i64 3, .int .i64 c, .int .i64 e, .list l, .int .i64 v, .bool s]) = (A && l.all fun g => I g 0 == 1) := by
    have : l.all (grpOk 3) = (l.all (grpOk 1) && l.all fun g => I g 0 == 1) := by
      rw [← all_and]
      refine all_cong fun x => ?_
      simp [grpOk]
    rw [job_ty, hA, show within 3 1 3 = true from rfl, Bool.and_true, this, Bool.and_assoc]
    cases within a 1 1099511627776 <;> cases within c 1 100 <;> cases within e 1 8 <;> cases within l.length 1 2 <;> simp
  simp only [vc4, VC.holds, pre, implies_true, true_and, forall_eq]
  obtain ⟨J, hJ⟩ : ∃ J : List D → Prop, ∀ xs, J xs ↔ ∃ i : Nat, i ≤ l.length ∧ xs = [.bool ((l.take i).all fun g => I g 0 == 1), .int .i64 i] := ⟨_, fun _ => Iff.rfl⟩
  obtain ⟨m, hm⟩ : ∃ m : List D → Nat, ∀ (i : Nat) k, m [k, .int .i64 i] = l.length - i := ⟨fun xs => l.length - (I (.list xs) 1).toNat, fun _ _ => rfl⟩
  simp [den, U.den, B.den, phi, upd, toL_agg, toL_list, toL_tup, toI_int, toB_bool, j1, j2]
  refine ⟨J, (hJ _).2 ⟨0, Nat.zero_le _, rfl⟩, m, ?_⟩
  intro _ _ hx
  obtain ⟨i, hi, rfl⟩ := (hJ _).1 hx
  by_cases hlt : i < l.length
  · obtain ⟨g1, g2, g3, hgi⟩ := has_group (hg l[i] (List.getElem_mem hlt))
    have hgo : l[i]? = some (.agg [.int .i64 g1, .int .i64 g2, .int .i64 g3]) := by rw [List.getElem?_eq_getElem hlt, hgi]
    have hw := bound_of hl hlt
    have hn : ((l.take (i + 1)).all fun g => I g 0 == 1) = (((l.take i).all fun g => I g 0 == 1) && g1 == 1) := by rw [all_take_succ hgo]; rfl
    generalize ((l.take i).all fun g => I g 0 == 1) = T at *
    have e1 := hm i (.bool T)
    have e2 := hm (i + 1) (.bool (T && g1 == 1))
    rw [Int.natCast_add, Int.natCast_one] at e2
    simp [updV, upd, den, U.den, B.den, condB, hlt, hgo, hw, hgi, toL_agg, toI_int, toL_list, toB_bool, e1, e2]
    exact ⟨⟨(hJ _).2 ⟨i + 1, hlt, by rw [hn]; rfl⟩, by omega⟩, fun h => by omega⟩
  · have : i = l.length := by omega
    subst this
    rw [List.take_length]
    generalize (l.all fun g => I g 0 == 1) = T at *
    simp [updV, upd, den, U.den, B.den, condB, toL_agg, toI_int, toL_list, toB_bool, j1, j3]
    cases A <;> cases T <;> simp

def S0 (l : List D) : Int := (l.map fun d => I d 0).sum
def S1 (l : List D) : Int := (l.map fun d => I d 1).sum
def pos (l : List D) : Prop := ∀ d ∈ l, 0 ≤ I d 0 ∧ 0 ≤ I d 1
def Good (l : List D) : Prop := pos l ∧ S0 l ≤ 1152921504606846976 ∧ S1 l ≤ 1152921504606846976
theorem S0_app (a b : List D) : S0 (a ++ b) = S0 a + S0 b := by simp [S0]
theorem S1_app (a b : List D) : S1 (a ++ b) = S1 a + S1 b := by simp [S1]
theorem pos_app {a b : List D} : pos (a ++ b) ↔ pos a ∧ pos b := by
  unfold pos
  constructor
  · intro h; exact ⟨fun d hd => h d (List.mem_append_left _ hd), fun d hd => h d (List.mem_append_right _ hd)⟩
  · rintro ⟨h1, h2⟩ d hd
    rcases List.mem_append.1 hd with h | h
    · exact h1 d h
    · exact h2 d h
theorem S_nonneg : ∀ {l : List D}, pos l → 0 ≤ S0 l ∧ 0 ≤ S1 l
  | [], _ => ⟨Int.le_refl _, Int.le_refl _⟩
  | d :: l, h => by
    have h1 := h d (by simp)
    have h2 := S_nonneg (l := l) (fun x hx => h x (by simp [hx]))
    simp only [S0, S1, List.map_cons, List.sum_cons] at *
    omega
theorem Good_app {a b : List D} (h : Good (a ++ b)) : Good a ∧ Good b := by
  obtain ⟨h1, h2, h3⟩ := h
  rw [pos_app] at h1
  rw [S0_app] at h2
  rw [S1_app] at h3
  have := S_nonneg h1.1
  have := S_nonneg h1.2
  exact ⟨⟨h1.1, by omega, by omega⟩, h1.2, by omega, by omega⟩
theorem Good_step {a : List D} {x y : Int} (h : Good a) : sumOk (S0 a) (S1 a) x y = true ↔ Good (a ++ [.agg [.int .i64 x, .int .i64 y]]) := by
  have hn := S_nonneg h.1
  have e0 : S0 [.agg [.int .i64 x, .int .i64 y]] = x := by simp [S0, I, toL_agg, toI_int]
  have e1 : S1 [.agg [.int .i64 x, .int .i64 y]] = y := by simp [S1, I, toL_agg, toI_int]
  have ep : pos [.agg [.int .i64 x, .int .i64 y]] ↔ 0 ≤ x ∧ 0 ≤ y := by simp [pos, I, toL_agg, toI_int]
  rw [sumOk_iff]
  unfold Good
  rw [pos_app, S0_app, S1_app, e0, e1, ep]
  have := h.1
  constructor
  · intro hh; exact ⟨⟨h.1, by omega, by omega⟩, by omega, by omega⟩
  · rintro ⟨⟨_, _, _⟩, _, _⟩; omega
theorem Good_back {a : List D} {x y : Int} (h : Good a) : sumOk (S0 a) (S1 a) x y = true ↔ Good ([.agg [.int .i64 x, .int .i64 y]] ++ a) := by
  rw [Good_step h]
  unfold Good
  rw [pos_app, pos_app, S0_app, S0_app, S1_app, S1_app]
  constructor
  · rintro ⟨⟨h1, h2⟩, h3, h4⟩; exact ⟨⟨h2, h1⟩, by omega, by omega⟩
  · rintro ⟨⟨h1, h2⟩, h3, h4⟩; exact ⟨⟨h2, h1⟩, by omega, by omega⟩
/-- The state after some elements: the sum while all is well. -/
noncomputable def gb (l : List D) : Bool := @decide (Good l) (Classical.propDecidable _)
theorem gb_iff {l : List D} : gb l = true ↔ Good l := by unfold gb; exact @decide_eq_true_iff _ (Classical.propDecidable _)
noncomputable def A0 (l : List D) : Int := if gb l then S0 l else 0
noncomputable def A1 (l : List D) : Int := if gb l then S1 l else 0

theorem add_step {a b : List D} {x y : Int} (hg : gb a = true) (h : sumOk (S0 a) (S1 a) x y = true ↔ Good b) (e0 : S0 b = S0 a + x) (e1 : S1 b = S1 a + y) :
    addD (.agg [.int .i64 (A0 a), .int .i64 (A1 a)]) (.agg [.int .i64 x, .int .i64 y]) = .tup [.agg [.int .i64 (A0 b), .int .i64 (A1 b)], .bool (gb b)] := by
  have ea0 : A0 a = S0 a := by unfold A0; rw [if_pos hg]
  have ea1 : A1 a = S1 a := by unfold A1; rw [if_pos hg]
  rw [ea0, ea1]
  cases hb : gb b with
  | true =>
    rw [addT (h.2 (gb_iff.1 hb))]
    unfold A0 A1
    rw [if_pos hb, if_pos hb, e0, e1]
  | false =>
    have : sumOk (S0 a) (S1 a) x y = false := by
      rw [Bool.eq_false_iff]; intro hh; have := gb_iff.2 (h.1 hh); rw [hb] at this; cases this
    rw [addF this]
    unfold A0 A1
    rw [if_neg (by simp [hb]), if_neg (by simp [hb])]

theorem c3 : PureFn Try.prog 3 ⟨[.list resT], [boolR]⟩ (pre 3) (phi 3) := by
  refine pureFn_of (anns := [(4, ⟨[], [(3, [])], []⟩), (10, ⟨[], [(6, [])], []⟩)]) mix con9 Try.func3 (by kernel_rfl) (v := vc3) (by kernel_rfl) ?_
  intro ds h _
  obtain ⟨_, _, rfl, ⟨l, rfl, hl, hg⟩, rfl⟩ := h
  have hmax : maxLen ≤ 9223372036854775807 := by decide
  simp only [vc3, VC.holds, pre, implies_true, true_and, forall_eq]
  obtain ⟨J, hJ⟩ : ∃ J : List D → Prop, ∀ xs, J xs ↔ ∃ i : Nat, i ≤ l.length ∧ xs = [.bool (gb (l.take i)), .int .i64 i, .int .i64 (A0 (l.take i)), .int .i64 (A1 (l.take i))] := ⟨_, fun _ => Iff.rfl⟩
  obtain ⟨m, hm⟩ : ∃ m : List D → Nat, ∀ (i : Nat) k p q, m [k, .int .i64 i, p, q] = l.length - i := ⟨fun xs => l.length - (I (.list xs) 1).toNat, fun _ _ _ _ => rfl⟩
  obtain ⟨K, hK⟩ : ∃ K : List D → Prop, ∀ xs, K xs ↔ ∃ i : Nat, i ≤ l.length ∧ xs = [.bool (gb (l.drop i)), .int .i64 ((i : Int) - 1), .int .i64 (A0 (l.drop i)), .int .i64 (A1 (l.drop i))] := ⟨_, fun _ => Iff.rfl⟩
  obtain ⟨n, hn⟩ : ∃ n : List D → Nat, ∀ (i : Nat) k p q, n [k, .int .i64 ((i : Int) - 1), p, q] = i := ⟨fun xs => (I (.list xs) 1 + 1).toNat, fun i _ _ _ => by simp [I, toL_list, toI_int]⟩
  have g0 : gb [] = true := gb_iff.2 ⟨by simp [pos], by simp [S0], by simp [S1]⟩
  refine ⟨J, m, (hJ _).2 ⟨0, Nat.zero_le _, ?_⟩, ?_⟩
  · simp [den, g0, A0, A1, S0, S1]
  intro _ _ hx
  obtain ⟨i, hi, rfl⟩ := (hJ _).1 hx
  refine ⟨fun hc => ?_, fun hc => ?_⟩
  · simp [updV, upd, den, U.den, B.den, toL_agg, toI_int, toL_list, toB_bool] at hc
    obtain ⟨hlt, hgi⟩ := hc
    obtain ⟨x, y, hd, _, _⟩ := two_ints (hg l[i] (List.getElem_mem hlt))
    have hgo : l[i]? = some (.agg [.int .i64 x, .int .i64 y]) := by rw [List.getElem?_eq_getElem hlt, hd]
    have ht : l.take (i + 1) = l.take i ++ [.agg [.int .i64 x, .int .i64 y]] := by rw [List.take_add_one, hgo]; rfl
    have hst := add_step hgi (b := l.take (i + 1)) (x := x) (y := y) (by rw [ht]; exact Good_step (gb_iff.1 hgi)) (by rw [ht, S0_app]; simp [S0, I, toL_agg, toI_int]) (by rw [ht, S1_app]; simp [S1, I, toL_agg, toI_int])
    have hw := bound_of hl hlt
    have e1 := hm i (.bool (gb (l.take i))) (.int .i64 (A0 (l.take i))) (.int .i64 (A1 (l.take i)))
    have e2 := hm (i + 1) (.bool (gb (l.take (i + 1)))) (.int .i64 (A0 (l.take (i + 1)))) (.int .i64 (A1 (l.take (i + 1))))
    have hj := (hJ _).2 ⟨i + 1, hlt, rfl⟩
    rw [Int.natCast_add, Int.natCast_one] at e2 hj
    rw [Int.natCast_add, Int.natCast_one] at hw
    generalize l.take (i + 1) = T at *
    simp [updV, upd, den, U.den, B.den, condB, phi, toL_agg, toI_int, toL_list, toL_tup, toB_bool, hlt, hgo, hd, hst, hw, e1, e2]
    exact ⟨hj, by omega⟩
  · simp [updV, upd, den, U.den, B.den, toL_agg, toI_int, toL_list, toB_bool] at hc
    have hp : gb (l.take i) = gb l ∧ (gb l = true → l.take i = l) := by
      cases hgi : gb (l.take i) with
      | true =>
        have : ¬ i < l.length := fun h => by have := hc h; rw [hgi] at this; cases this
        have : l.take i = l := List.take_of_length_le (by omega)
        rw [this] at hgi
        exact ⟨hgi.symm, fun _ => this⟩
      | false =>
        have : gb l = false := by
          rw [Bool.eq_false_iff]; intro h
          have h2 := gb_iff.1 h
          rw [← List.take_append_drop i l] at h2
          have := gb_iff.2 (Good_app h2).1
          rw [hgi] at this; cases this
        exact ⟨this.symm, fun h => by rw [this] at h; cases h⟩
    refine ⟨K, n, (hK _).2 ⟨l.length, Nat.le_refl _, ?_⟩, ?_⟩
    · have hw : IntKind.wrap .i64 ((l.length : Int) - 1) = (l.length : Int) - 1 := wrap64 (by omega) (by omega)
      simp [den, U.den, B.den, updV, upd, toL_list, toI_int, hw, g0, A0, A1, S0, S1]
    intro _ _ hx
    obtain ⟨j, hj, rfl⟩ := (hK _).1 hx
    refine ⟨fun hd => ?_, fun hd => ?_⟩
    · simp [updV, upd, den, U.den, B.den, toL_agg, toI_int, toL_list, toB_bool] at hd
      obtain ⟨hpos, hgj⟩ := hd
      obtain ⟨k, rfl⟩ : ∃ k : Nat, j = k + 1 := ⟨j - 1, by omega⟩
      have hlt : k < l.length := by omega
      obtain ⟨x, y, hd, _, _⟩ := two_ints (hg l[k] (List.getElem_mem hlt))
      have hgo : l[k]? = some (.agg [.int .i64 x, .int .i64 y]) := by rw [List.getElem?_eq_getElem hlt, hd]
      have ht : l.drop k = [.agg [.int .i64 x, .int .i64 y]] ++ l.drop (k + 1) := by rw [List.drop_eq_getElem_cons hlt, hd]; rfl
      have hst := add_step hgj (b := l.drop k) (x := x) (y := y) (by rw [ht]; exact Good_back (gb_iff.1 hgj)) (by rw [ht, S0_app]; simp [S0, I, toL_agg, toI_int]; omega) (by rw [ht, S1_app]; simp [S1, I, toL_agg, toI_int]; omega)
      have ek : (((k + 1 : Nat) : Int) - 1) = k := by omega
      have hw : IntKind.wrap .i64 ((k : Int) - 1) = (k : Int) - 1 := wrap64 (by omega) (by omega)
      have e1 := hn (k + 1) (.bool (gb (l.drop (k + 1)))) (.int .i64 (A0 (l.drop (k + 1)))) (.int .i64 (A1 (l.drop (k + 1))))
      have e2 := hn k (.bool (gb (l.drop k))) (.int .i64 (A0 (l.drop k))) (.int .i64 (A1 (l.drop k)))
      have hj := (hK _).2 ⟨k, Nat.le_of_lt hlt, rfl⟩
      rw [ek] at e1 ⊢
      generalize l.drop (k + 1) = T at *
      generalize l.drop k = T' at *
      simp [updV, upd, den, U.den, B.den, condB, phi, toL_agg, toI_int, toL_list, toL_tup, toB_bool, hlt, hgo, hd, hst, hw, e1, e2]
      exact hj
    · simp [updV, upd, den, U.den, B.den, toL_agg, toI_int, toL_list, toB_bool] at hd
      have hq : gb (l.drop j) = gb l ∧ (gb l = true → l.drop j = l) := by
        cases hgj : gb (l.drop j) with
        | true =>
          have : j = 0 := by
            rcases Nat.eq_zero_or_pos j with h | h
            · exact h
            · have := hd (by omega); rw [hgj] at this; cases this
          subst this
          rw [List.drop_zero] at hgj ⊢
          exact ⟨hgj.symm, fun _ => rfl⟩
        | false =>
          have : gb l = false := by
            rw [Bool.eq_false_iff]; intro h
            have h2 := gb_iff.1 h
            rw [← List.take_append_drop j l] at h2
            have := gb_iff.2 (Good_app h2).2
            rw [hgj] at this; cases this
          exact ⟨this.symm, fun h => by rw [this] at h; cases h⟩
      rw [hp.1, hq.1]
      cases hb : gb l with
      | false => simp [updV, upd, den, U.den, B.den, condB, phi, toL_agg, toI_int, toL_list, toL_tup, toB_bool]
      | true =>
        rw [hp.2 hb, hq.2 hb]
        simp [updV, upd, den, U.den, B.den, condB, phi, toL_agg, toI_int, toL_list, toL_tup, toB_bool]

end Go.Proofs.Ytpddkmdcmkoofaa
