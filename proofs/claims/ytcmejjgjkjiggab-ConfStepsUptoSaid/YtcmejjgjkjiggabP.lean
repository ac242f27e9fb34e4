/-
  The statements of this seat: each law gives true, whatever its arguments, and its arguments read as they did; no condition.
-/
import Derived.Test.YtcmejjgjkjiggabRows
import Derived.Test.YtcmejjgjkjiggabCS
import Derived.Test.YtcmejjgjkjiggabEngW
import Derived.SizedLaws
import Derived.JoinedCond
import Derived.Deep.CondSized
namespace Go.Proofs.Ytcmejjgjkjiggab
open Go.ChangeShapes Go.WideShapes Go.ChangeAt Go.RowKit Go.Eng

theorem Try.own : ownKnob Try.prog.godebug = none := by kernel_rfl
theorem Try.laidOut : laidOutB Try.prog = true := by kernel_rfl

mutual
theorem dwt_bulk {H : Type} : ∀ d : DataW H, dwt d + 1 ≤ Rows.uptoBulk d
  | .lit v => by cases v <;> simp [dwt, Rows.uptoBulk]
  | .nil => by simp [dwt, Rows.uptoBulk]
  | .ptr d => by simp [dwt, Rows.uptoBulk]
  | .slice e s => by
    have := dwtL_bulk e
    simp only [dwt, Rows.uptoBulk]; omega
  | .agg p => by
    have := dwtL_bulk p
    simp only [dwt, Rows.uptoBulk]; omega
  | .iface _ d => by simp [dwt, Rows.uptoBulk]
  | .map e => by simp [dwt, Rows.uptoBulk]
  | .held _ => by simp [dwt, Rows.uptoBulk]
theorem dwtL_bulk {H : Type} : ∀ l : List (DataW H), dwtL l + l.length ≤ Rows.uptoBulkAll l
  | [] => by simp [dwtL, Rows.uptoBulkAll]
  | d :: r => by
    have h1 := dwt_bulk d
    have h2 := dwtL_bulk r
    simp only [dwtL, Rows.uptoBulkAll, List.length_cons]; omega
end
theorem small_wt {H : Type} {ds : List (DataW H)} (hk : Rows.uptoSmall H ds = true) : dwtL ds ≤ 1048576 := by
  have h : Rows.uptoBulkAll ds ≤ 1048576 := of_decide_eq_true hk
  have := dwtL_bulk ds
  omega

set_option maxRecDepth 100000 in
theorem confSteps_lifted (os : Os) (started : os.Started) (H : Type) (enc : TypeId × Value → H) (F : Stop.Interp) :
    ReturnsInHanded {} Try.checked os 5 .any ((Rows.OpenSpec.upto Rows.confStepsSpec).pre6 enc Try.prog Try.f5 Rows.confStepsUptoRow.domain false) (((Rows.OpenSpec.upto Rows.confStepsSpec).at F).post enc Try.prog Try.f5 false true false false) := by
  refine returnsInHanded_of_cond_sized (C := Try.checked) (s := Rows.OpenSpec.upto Rows.confStepsSpec) (k := Rows.uptoSmall) rfl Try.own started (by kernel_rfl) Try.func5
    (OpenSpec.witness (enc := enc) (C := Try.checked) (s := Rows.OpenSpec.upto Rows.confStepsSpec) (k := Rows.uptoSmall) rfl false ⟨#[], #[.agg #[.slice none 0 0, .slice none 0 0], .int .i64 0], []⟩ 8 (by kernel_rfl) (by kernel_rfl) (by kernel_rfl)
      (x := ([.agg [.nil, .nil], .lit (.int .i64 0)], [], [])) (by kernel_rfl) rfl (by kernel_rfl)) ?_
  intro W base args ds gs before hval hW _ hk hwt _
  have hW' := hW
  obtain ⟨p, q, hA, _⟩ := hW'
  rw [Try.params5] at hA
  obtain ⟨_, _, _, _, _, _, _, rfl, _⟩ := trodAll_two hA
  have hsm := small_wt hk
  exact law_calls_wt (s := Rows.confStepsSpec) 16 c5 Try.laidOut (by kernel_rfl) (by kernel_rfl) rfl (by kernel_rfl) (tb := 4) (by kernel_rfl) rfl rfl hval hW hwt (fun xs _ hx => ⟨Nat.le_trans hx hsm, rfl⟩)

theorem confSteps_holds : Rows.ConfStepsUptoSaid :=
  OpenClaim.holds_of_cond 5 Try.f5 rfl rfl rfl rfl rfl rfl rfl ⟨rfl, rfl, rfl, rfl, rfl⟩ rfl rfl rfl rfl rfl (by kernel_rfl) Try.func5 (by kernel_rfl)
    (of_decide_eq_true (by kernel_rfl)) (by unfold Func.isWrapper; rw [if_neg (by decide +kernel)]; exact ⟨rfl, rfl⟩)
    (fun os started H enc _ F => confSteps_lifted os started H enc F)

theorem confGrows_lifted (os : Os) (started : os.Started) (H : Type) (enc : TypeId × Value → H) :
    ReturnsInHanded {} Try.checked os 4 .any (Rows.confGrowsSpec.pre6 enc Try.prog Try.f4 Rows.confGrowsRow.domain false) (Rows.confGrowsSpec.post enc Try.prog Try.f4 false true false false) := by
  refine returnsInHanded_of_change_sized (C := Try.checked) Try.own started (by kernel_rfl) Try.func4
    (ChangeSpec.witness6 (enc := enc) (C := Try.checked) false ⟨#[], #[.agg #[.slice none 0 0, .slice none 0 0], .int .i64 0], []⟩ 8 (by kernel_rfl) (by kernel_rfl) (by kernel_rfl) (by kernel_rfl)) ?_
  intro W base args ds gs before hval hW _ hwt _
  have hW' := hW
  obtain ⟨p, q, hA, _⟩ := hW'
  rw [Try.params4] at hA
  obtain ⟨_, _, _, _, _, _, _, rfl, _⟩ := trodAll_two hA
  exact law_calls 8 c4 Try.laidOut (by kernel_rfl) (by kernel_rfl) rfl (by kernel_rfl) (tb := 4) (by kernel_rfl) rfl rfl hval hW hwt (fun _ _ => ⟨trivial, rfl⟩)

theorem confGrows_holds : Rows.ConfGrowsSaid :=
  OpenClaim.holds_of_wide 4 Try.f4 rfl rfl rfl rfl rfl rfl rfl ⟨rfl, rfl, rfl, rfl, rfl⟩ rfl rfl rfl rfl rfl (by kernel_rfl) Try.func4 (by kernel_rfl)
    (of_decide_eq_true (by kernel_rfl)) (by unfold Func.isWrapper; rw [if_neg (by decide +kernel)]; exact ⟨rfl, rfl⟩)
    (fun os started H enc _ => confGrows_lifted os started H enc)

set_option maxRecDepth 100000 in
theorem confChanges_lifted (os : Os) (started : os.Started) (H : Type) (enc : TypeId × Value → H) (F : Stop.Interp) :
    ReturnsInHanded {} Try.checked os 3 .any ((Rows.OpenSpec.upto Rows.confChangesSpec).pre6 enc Try.prog Try.f3 Rows.confChangesUptoRow.domain false) (((Rows.OpenSpec.upto Rows.confChangesSpec).at F).post enc Try.prog Try.f3 false true false false) := by
  refine returnsInHanded_of_cond_sized (C := Try.checked) (s := Rows.OpenSpec.upto Rows.confChangesSpec) (k := Rows.uptoSmall) rfl Try.own started (by kernel_rfl) Try.func3
    (OpenSpec.witness (enc := enc) (C := Try.checked) (s := Rows.OpenSpec.upto Rows.confChangesSpec) (k := Rows.uptoSmall) rfl false ⟨#[], #[.agg #[.slice none 0 0, .slice none 0 0], .agg #[.slice none 0 0, .slice none 0 0], .int .i64 0], []⟩ 8 (by kernel_rfl) (by kernel_rfl) (by kernel_rfl)
      (x := ([.agg [.nil, .nil], .agg [.nil, .nil], .lit (.int .i64 0)], [], [])) (by kernel_rfl) rfl (by kernel_rfl)) ?_
  intro W base args ds gs before hval hW _ hk hwt _
  have hW' := hW
  obtain ⟨p, q, hA, _⟩ := hW'
  rw [Try.params3] at hA
  obtain ⟨_, _, _, _, _, _, _, _, _, _, rfl, _⟩ := trodAll_three hA
  have hsm := small_wt hk
  exact law_calls_wt (s := Rows.confChangesSpec) 16 c3 Try.laidOut (by kernel_rfl) (by kernel_rfl) rfl (by kernel_rfl) (tb := 4) (by kernel_rfl) rfl rfl hval hW hwt (fun xs _ hx => ⟨Nat.le_trans hx hsm, rfl⟩)

theorem confChanges_holds : Rows.ConfChangesUptoSaid :=
  OpenClaim.holds_of_cond 3 Try.f3 rfl rfl rfl rfl rfl rfl rfl ⟨rfl, rfl, rfl, rfl, rfl⟩ rfl rfl rfl rfl rfl (by kernel_rfl) Try.func3 (by kernel_rfl)
    (of_decide_eq_true (by kernel_rfl)) (by unfold Func.isWrapper; rw [if_neg (by decide +kernel)]; exact ⟨rfl, rfl⟩)
    (fun os started H enc _ F => confChanges_lifted os started H enc F)

end Go.Proofs.Ytcmejjgjkjiggab
