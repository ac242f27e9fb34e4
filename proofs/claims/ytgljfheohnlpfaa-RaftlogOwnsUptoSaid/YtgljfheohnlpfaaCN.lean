/-
  RaftlogPlays, where no log may begin so (New gives nil); and, with what stands ahead of this text, at whatever numbers.
-/
import Derived.Test.YtgljfheohnlpfaaCO
set_option linter.unusedSimpArgs false
set_option linter.unusedVariables false
namespace Go.Proofs.Ytgljfheohnlpfaa
open Go Go.Eng Go.Proofs

def sN : Sig := ⟨[.int .i64, .int .i64], [(false, [(.ptr (.ofL [.int .i64, .int .i64, .list entT]), none)])], none⟩
def vc9n : VC :=
  .call 4 23 (.cons (.var 0) (.cons (.kint .i64 (0)) (.cons (.kint .i64 (1099511627776)) (.nil)))) [] <|
  .call 8 23 (.cons (.var 1) (.cons (.kint .i64 (0)) (.cons (.kint .i64 (1099511627776)) (.nil)))) [(.un (.not) (.var 4), false)] <|
  .branch (.bin (.or) (.bin (.or) (.un (.not) (.var 4)) (.un (.not) (.var 8))) (.un (.not) (.bin (.beq) (.bin (.eq) (.var 0) (.kint .i64 (0))) (.bin (.eq) (.var 1) (.kint .i64 (0)))))) (
    .ret (.nilp))
    (
    .stuck 11)
def vc18n : VC :=
  .branch (.bin (.or) (.bin (.or) (.bin (.or) (.bin (.or) (.bin (.lt) (.var 0) (.kint .i64 (0))) (.bin (.gt) (.var 0) (.kint .i64 (1099511627776)))) (.bin (.lt) (.var 1) (.kint .i64 (0)))) (.bin (.gt) (.var 1) (.kint .i64 (1099511627776)))) (.un (.not) (.bin (.beq) (.bin (.eq) (.var 0) (.kint .i64 (0))) (.bin (.eq) (.var 1) (.kint .i64 (0)))))) (
    .ret (.nilp))
    (
    .stuck 11)
def vc4n : VC :=
  .call 6 9 (.cons (.var 0) (.cons (.var 1) (.nil))) [] <|
  .call 10 18 (.cons (.var 0) (.cons (.var 1) (.nil))) [] <|
  .branch (.un (.not) (.bin (.beq) (.un (.not) (.un (.isnil) (.var 6))) (.un (.not) (.un (.isnil) (.var 10))))) (
    .ret (.kbool false))
    (
    .loop 18 [.kbool false, .kint .i64 (0)] [.bool, .int .i64] (
      .branch (.bin (.and) (.bin (.lt) (.var 19) (.un (.len) (.var 2))) (.un (.not) (.un (.isnil) (.var 6)))) (
        .obl [] (.bin (.and) (.bin (.le) (.kint .i64 (0)) (.var 19)) (.bin (.lt) (.var 19) (.un (.len) (.var 2)))) <|
        .stuck 2006)
        (
        .call 28 17 (.nil) [] <|
        .ret (.var 28))))

def phiN (f : Nat) (_ : List D) : D := match f with
  | 9 => .nilp
  | 18 => .nilp
  | _ => .bool true
def preN (f : Nat) (ds : List D) : Prop := match f with
  | 9 => newOk (ds.getD 0 .top).toI (ds.getD 1 .top).toI = false
  | 18 => newOk (ds.getD 0 .top).toI (ds.getD 1 .top).toI = false
  | _ => True
theorem newOk_false {i t : Int} (h : newOk i t = false) : ¬ ((0 ≤ i ∧ i ≤ MX ∧ 0 ≤ t ∧ t ≤ MX) ∧ (i = 0 ↔ t = 0)) := fun hk => by
  rw [newOk_iff.2 ⟨okB_iff.2 hk.1, hk.2⟩] at h; cases h

theorem c9n : PureFn Try.prog 9 sN (preN 9) (phiN 9) := by
  refine pureFn_auto (given := []) mix con23 Try.func9 (by kernel_rfl) (v := vc9n) (by kernel_rfl) ?_
  intro ds h hp
  obtain ⟨_, _, rfl, ⟨i, rfl, hi⟩, _, _, rfl, ⟨t, rfl, ht⟩, rfl⟩ := h
  have hn := newOk_false (i := i) (t := t) hp
  simp only [MX] at hn
  have hw : ∀ n : Int, phi 23 [.int .i64 n, .int .i64 0, .int .i64 1099511627776] = .bool (inR n 0 1099511627776) := fun _ => rfl
  have hR : phiN 9 [.int .i64 i, .int .i64 t] = .nilp := rfl
  simp [vc9n, vh_obl, vh_call, vh_room, vh_branch, vh_loop, vh_again, vh_ret, vh_stuck, updV, den, U.den, B.den, upd, condB, toL_list, toL_agg, toL_tup, toL_ptr, toL_fn, toI_int, toB_bool, pre, hw, inR, hR]
  intro h1 h2 h3 h4 h5
  refine hn ⟨⟨h1, h2, h3, h4⟩, ?_⟩
  rw [Bool.eq_iff_iff, beq_iff_eq, beq_iff_eq] at h5; exact h5
theorem c18n : PureFn Try.prog 18 sN (preN 18) (phiN 18) := by
  refine pureFn_auto (given := []) mix (con_nil (Φ := phi) (Pre := pre)) Try.func18 (by kernel_rfl) (v := vc18n) (by kernel_rfl) ?_
  intro ds h hp
  obtain ⟨_, _, rfl, ⟨i, rfl, hi⟩, _, _, rfl, ⟨t, rfl, ht⟩, rfl⟩ := h
  have hn := newOk_false (i := i) (t := t) hp
  simp only [MX] at hn
  have hR : phiN 18 [.int .i64 i, .int .i64 t] = .nilp := rfl
  simp [vc18n, vh_obl, vh_call, vh_room, vh_branch, vh_loop, vh_again, vh_ret, vh_stuck, updV, den, U.den, B.den, upd, condB, toL_list, toL_agg, toL_tup, toL_ptr, toL_fn, toI_int, toB_bool, hR]
  intro h1 h2 h3 h4 h5
  refine hn ⟨⟨h1, h2, h3, h4⟩, ?_⟩
  rw [Bool.eq_iff_iff, beq_iff_eq, beq_iff_eq] at h5; exact h5
theorem c17n : PureFn Try.prog 17 s17 (preN 17) (phiN 17) := c17
theorem conN : Con Try.prog preN phiN [(9, sN), (18, sN), (17, s17)] := con_cons c9n (con_cons c18n (con_cons c17n con_nil))
theorem c4n : PureFn Try.prog 4 s4 (fun ds => newOk (ds.getD 0 .top).toI (ds.getD 1 .top).toI = false) (fun _ => .bool true) := by
  refine pureFn_auto (given := []) mix conN Try.func4 (by kernel_rfl) (v := vc4n) (by kernel_rfl) ?_
  intro ds h hp
  obtain ⟨_, _, rfl, ⟨i, rfl, hi⟩, _, _, rfl, ⟨t, rfl, ht⟩, _, _, rfl, ⟨d, rfl, hd, hdL⟩, rfl⟩ := h
  replace hp : newOk i t = false := hp
  have h9 : ∀ a, phiN 9 a = .nilp := fun _ => rfl
  have h18 : ∀ a, phiN 18 a = .nilp := fun _ => rfl
  have h17 : ∀ a, phiN 17 a = .bool true := fun _ => rfl
  simp [vc4n, vh_obl, vh_call, vh_room, vh_branch, vh_loop, vh_again, vh_ret, vh_stuck, updV, den, U.den, B.den, upd, condB, toL_list, toL_agg, toL_tup, toL_ptr, toL_fn, toI_int, toB_bool, preN, h9, h18, h17, hp, D.isNilp]
  exact LoopOk.intro (fun _ => True) (fun _ => 0) trivial (fun xs _ _ => by simp)
/-- A contract at two kinds of arguments. -/
theorem pureFn_both {P : Program} {f : Nat} {sig : Sig} {Pre1 Pre2 Pre3 : List D → Prop} {Φ1 Φ2 Φ3 : List D → D} (h1 : PureFn P f sig Pre1 Φ1) (h2 : PureFn P f sig Pre2 Φ2) (hP : ∀ ds, Pre3 ds → Pre1 ds ∧ Φ1 ds = Φ3 ds ∨ Pre2 ds ∧ Φ2 ds = Φ3 ds) : PureFn P f sig Pre3 Φ3 where
  enter := h1.enter
  calls hob w S vs ds a b c d e := by
    rcases hP ds e with ⟨e, q⟩ | ⟨e, q⟩
    · rw [← q]; exact h1.calls hob w S vs ds a b c d e
    · rw [← q]; exact h2.calls hob w S vs ds a b c d e
  ocalls ob hob hpl w S β τ vs dd oo a b e := by
    rcases hP _ e with ⟨e, q⟩ | ⟨e, q⟩
    · rw [← q]; exact h1.ocalls ob hob hpl w S β τ vs dd oo a b e
    · rw [← q]; exact h2.ocalls ob hob hpl w S β τ vs dd oo a b e
  pcalls ob hob hpl w T v zs a b e := by
    rcases hP _ e with ⟨e, q⟩ | ⟨e, q⟩
    · rw [← q]; exact h1.pcalls ob hob hpl w T v zs a b e
    · rw [← q]; exact h2.pcalls ob hob hpl w T v zs a b e
theorem c4all : PureFn Try.prog 4 s4 (fun ds => wtL ds ≤ 1048576) (fun _ => .bool true) :=
  pureFn_both c4 c4n fun ds h => by
    by_cases hn : newOk (ds.getD 0 .top).toI (ds.getD 1 .top).toI = true
    · exact .inl ⟨⟨h, hn⟩, rfl⟩
    · exact .inr ⟨by simpa using hn, rfl⟩
end Go.Proofs.Ytgljfheohnlpfaa
