/-
  The statements of this seat: each law gives true, whatever its arguments, and its arguments read as they did; no condition.
-/
import Derived.Test.YtippnelhkdjknaaRows
import Derived.Test.YtippnelhkdjknaaCU
import Derived.Test.YtippnelhkdjknaaE9
import Derived.SizedLaws
import Derived.JoinedCond
import Derived.Deep.CondSized
namespace Go.Proofs.Ytippnelhkdjknaa
open Go.ChangeShapes Go.WideShapes Go.ChangeAt Go.RowKit Go.Eng

theorem Try.own : ownKnob Try.prog.godebug = none := by kernel_rfl
theorem Try.laidOut : laidOutB Try.prog = true := by kernel_rfl

mutual
theorem dwt_bulk {H : Type} : ∀ d : DataW H, dwt d + 1 ≤ Rows.uptoBulk d
  | .lit v => by cases v <;> simp [dwt, Rows.uptoBulk]
  | .nil => by simp [dwt, Rows.uptoBulk]
  | .ptr d => by simp [dwt, Rows.uptoBulk]
  | .slice e s => by
    have := dwtL_bulk e
    simp only [dwt, Rows.uptoBulk]; omega
  | .agg p => by
    have := dwtL_bulk p
    simp only [dwt, Rows.uptoBulk]; omega
  | .iface _ d => by simp [dwt, Rows.uptoBulk]
  | .map e => by simp [dwt, Rows.uptoBulk]
  | .held _ => by simp [dwt, Rows.uptoBulk]
theorem dwtL_bulk {H : Type} : ∀ l : List (DataW H), dwtL l + l.length ≤ Rows.uptoBulkAll l
  | [] => by simp [dwtL, Rows.uptoBulkAll]
  | d :: r => by
    have h1 := dwt_bulk d
    have h2 := dwtL_bulk r
    simp only [dwtL, Rows.uptoBulkAll, List.length_cons]; omega
end
theorem small_wt {H : Type} {ds : List (DataW H)} (hk : Rows.uptoSmall H ds = true) : dwtL ds ≤ 1048576 := by
  have h : Rows.uptoBulkAll ds ≤ 1048576 := of_decide_eq_true hk
  have := dwtL_bulk ds
  omega

set_option maxRecDepth 100000 in
theorem diffHeld_lifted (os : Os) (started : os.Started) (H : Type) (enc : TypeId × Value → H) (F : Stop.Interp) :
    ReturnsInHanded {} Try.checked os 3 .any ((Rows.OpenSpec.upto Rows.diffHeldSpec).pre6 enc Try.prog Try.f3 Rows.diffHeldUptoRow.domain false) (((Rows.OpenSpec.upto Rows.diffHeldSpec).at F).post enc Try.prog Try.f3 false true false false) := by
  refine returnsInHanded_of_cond_sized (C := Try.checked) (s := Rows.OpenSpec.upto Rows.diffHeldSpec) (k := Rows.uptoSmall) rfl Try.own started (by kernel_rfl) Try.func3
    (OpenSpec.witness (enc := enc) (C := Try.checked) (s := Rows.OpenSpec.upto Rows.diffHeldSpec) (k := Rows.uptoSmall) rfl false ⟨#[], #[.agg #[.int .i64 0, .int .i64 0, .slice none 0 0, .slice none 0 0, .slice none 0 0, .slice none 0 0, .slice none 0 0, .slice none 0 0, .slice none 0 0], .int .i64 0], []⟩ 8 (by kernel_rfl) (by kernel_rfl) (by kernel_rfl)
      (x := ([.agg [.lit (.int .i64 0), .lit (.int .i64 0), .nil, .nil, .nil, .nil, .nil, .nil, .nil], .lit (.int .i64 0)], [], [])) (by kernel_rfl) rfl (by kernel_rfl)) ?_
  intro W base args ds gs before hval hW _ hk hwt _
  have hW' := hW
  obtain ⟨p, q, hA, _⟩ := hW'
  rw [Try.params3] at hA
  obtain ⟨_, _, _, _, _, _, _, rfl, _⟩ := trodAll_two hA
  have hsm := small_wt hk
  exact law_calls_wt (s := Rows.diffHeldSpec) 16 c3 Try.laidOut (by kernel_rfl) (by kernel_rfl) rfl (by kernel_rfl) (tb := 4) (by kernel_rfl) rfl rfl hval hW hwt (fun xs _ hx => ⟨Nat.le_trans hx hsm, rfl⟩)

theorem diffHeld_holds : Rows.DiffHeldUptoSaid :=
  OpenClaim.holds_of_cond 3 Try.f3 rfl rfl rfl rfl rfl rfl rfl ⟨rfl, rfl, rfl, rfl, rfl⟩ rfl rfl rfl rfl rfl (by kernel_rfl) Try.func3 (by kernel_rfl)
    (of_decide_eq_true (by kernel_rfl)) (by unfold Func.isWrapper; rw [if_neg (by decide +kernel)]; exact ⟨rfl, rfl⟩)
    (fun os started H enc _ F => diffHeld_lifted os started H enc F)

set_option maxRecDepth 100000 in
theorem diffQuiet_lifted (os : Os) (started : os.Started) (H : Type) (enc : TypeId × Value → H) (F : Stop.Interp) :
    ReturnsInHanded {} Try.checked os 5 .any ((Rows.OpenSpec.upto Rows.diffQuietSpec).pre6 enc Try.prog Try.f5 Rows.diffQuietUptoRow.domain false) (((Rows.OpenSpec.upto Rows.diffQuietSpec).at F).post enc Try.prog Try.f5 false true false false) := by
  refine returnsInHanded_of_cond_sized (C := Try.checked) (s := Rows.OpenSpec.upto Rows.diffQuietSpec) (k := Rows.uptoSmall) rfl Try.own started (by kernel_rfl) Try.func5
    (OpenSpec.witness (enc := enc) (C := Try.checked) (s := Rows.OpenSpec.upto Rows.diffQuietSpec) (k := Rows.uptoSmall) rfl false ⟨#[], #[.agg #[.int .i64 0, .int .i64 0, .slice none 0 0, .slice none 0 0, .slice none 0 0, .slice none 0 0, .slice none 0 0, .slice none 0 0, .slice none 0 0], .int .i64 0], []⟩ 8 (by kernel_rfl) (by kernel_rfl) (by kernel_rfl)
      (x := ([.agg [.lit (.int .i64 0), .lit (.int .i64 0), .nil, .nil, .nil, .nil, .nil, .nil, .nil], .lit (.int .i64 0)], [], [])) (by kernel_rfl) rfl (by kernel_rfl)) ?_
  intro W base args ds gs before hval hW _ hk hwt _
  have hW' := hW
  obtain ⟨p, q, hA, _⟩ := hW'
  rw [Try.params5] at hA
  obtain ⟨_, _, _, _, _, _, _, rfl, _⟩ := trodAll_two hA
  have hsm := small_wt hk
  exact law_calls_wt (s := Rows.diffQuietSpec) 16 c5 Try.laidOut (by kernel_rfl) (by kernel_rfl) rfl (by kernel_rfl) (tb := 4) (by kernel_rfl) rfl rfl hval hW hwt (fun xs _ hx => ⟨Nat.le_trans hx hsm, rfl⟩)

theorem diffQuiet_holds : Rows.DiffQuietUptoSaid :=
  OpenClaim.holds_of_cond 5 Try.f5 rfl rfl rfl rfl rfl rfl rfl ⟨rfl, rfl, rfl, rfl, rfl⟩ rfl rfl rfl rfl rfl (by kernel_rfl) Try.func5 (by kernel_rfl)
    (of_decide_eq_true (by kernel_rfl)) (by unfold Func.isWrapper; rw [if_neg (by decide +kernel)]; exact ⟨rfl, rfl⟩)
    (fun os started H enc _ F => diffQuiet_lifted os started H enc F)

theorem diffStops_lifted (os : Os) (started : os.Started) (H : Type) (enc : TypeId × Value → H) :
    ReturnsInHanded {} Try.checked os 6 .any (Rows.diffStopsSpec.pre6 enc Try.prog Try.f6 Rows.diffStopsRow.domain false) (Rows.diffStopsSpec.post enc Try.prog Try.f6 false true false false) := by
  refine returnsInHanded_of_change_sized (C := Try.checked) Try.own started (by kernel_rfl) Try.func6
    (ChangeSpec.witness6 (enc := enc) (C := Try.checked) false ⟨#[], #[.agg #[.int .i64 0, .int .i64 0, .slice none 0 0, .slice none 0 0, .slice none 0 0, .slice none 0 0, .slice none 0 0, .slice none 0 0, .slice none 0 0], .int .i64 0], []⟩ 8 (by kernel_rfl) (by kernel_rfl) (by kernel_rfl) (by kernel_rfl)) ?_
  intro W base args ds gs before hval hW _ hwt _
  have hW' := hW
  obtain ⟨p, q, hA, _⟩ := hW'
  rw [Try.params6] at hA
  obtain ⟨_, _, _, _, _, _, _, rfl, _⟩ := trodAll_two hA
  exact law_calls 8 c6 Try.laidOut (by kernel_rfl) (by kernel_rfl) rfl (by kernel_rfl) (tb := 4) (by kernel_rfl) rfl rfl hval hW hwt (fun _ _ => ⟨trivial, rfl⟩)

theorem diffStops_holds : Rows.DiffStopsSaid :=
  OpenClaim.holds_of_wide 6 Try.f6 rfl rfl rfl rfl rfl rfl rfl ⟨rfl, rfl, rfl, rfl, rfl⟩ rfl rfl rfl rfl rfl (by kernel_rfl) Try.func6 (by kernel_rfl)
    (of_decide_eq_true (by kernel_rfl)) (by unfold Func.isWrapper; rw [if_neg (by decide +kernel)]; exact ⟨rfl, rfl⟩)
    (fun os started H enc _ => diffStops_lifted os started H enc)

set_option maxRecDepth 100000 in
theorem diffDrains_lifted (os : Os) (started : os.Started) (H : Type) (enc : TypeId × Value → H) (F : Stop.Interp) :
    ReturnsInHanded {} Try.checked os 7 .any ((Rows.OpenSpec.upto Rows.diffDrainsSpec).pre6 enc Try.prog Try.f7 Rows.diffDrainsUptoRow.domain false) (((Rows.OpenSpec.upto Rows.diffDrainsSpec).at F).post enc Try.prog Try.f7 false true false false) := by
  refine returnsInHanded_of_cond_sized (C := Try.checked) (s := Rows.OpenSpec.upto Rows.diffDrainsSpec) (k := Rows.uptoSmall) rfl Try.own started (by kernel_rfl) Try.func7
    (OpenSpec.witness (enc := enc) (C := Try.checked) (s := Rows.OpenSpec.upto Rows.diffDrainsSpec) (k := Rows.uptoSmall) rfl false ⟨#[], #[.agg #[.int .i64 0, .int .i64 0, .slice none 0 0, .slice none 0 0, .slice none 0 0, .slice none 0 0, .slice none 0 0, .slice none 0 0, .slice none 0 0], .int .i64 0, .int .i64 0], []⟩ 8 (by kernel_rfl) (by kernel_rfl) (by kernel_rfl)
      (x := ([.agg [.lit (.int .i64 0), .lit (.int .i64 0), .nil, .nil, .nil, .nil, .nil, .nil, .nil], .lit (.int .i64 0), .lit (.int .i64 0)], [], [])) (by kernel_rfl) rfl (by kernel_rfl)) ?_
  intro W base args ds gs before hval hW _ hk hwt _
  have hW' := hW
  obtain ⟨p, q, hA, _⟩ := hW'
  rw [Try.params7] at hA
  obtain ⟨_, _, _, _, _, _, _, _, _, _, rfl, _⟩ := trodAll_three hA
  have hsm := small_wt hk
  exact law_calls_wt (s := Rows.diffDrainsSpec) 16 c7 Try.laidOut (by kernel_rfl) (by kernel_rfl) rfl (by kernel_rfl) (tb := 4) (by kernel_rfl) rfl rfl hval hW hwt (fun xs _ hx => ⟨Nat.le_trans hx hsm, rfl⟩)

theorem diffDrains_holds : Rows.DiffDrainsUptoSaid :=
  OpenClaim.holds_of_cond 7 Try.f7 rfl rfl rfl rfl rfl rfl rfl ⟨rfl, rfl, rfl, rfl, rfl⟩ rfl rfl rfl rfl rfl (by kernel_rfl) Try.func7 (by kernel_rfl)
    (of_decide_eq_true (by kernel_rfl)) (by unfold Func.isWrapper; rw [if_neg (by decide +kernel)]; exact ⟨rfl, rfl⟩)
    (fun os started H enc _ F => diffDrains_lifted os started H enc F)

set_option maxRecDepth 100000 in
theorem diffRolls_lifted (os : Os) (started : os.Started) (H : Type) (enc : TypeId × Value → H) (F : Stop.Interp) :
    ReturnsInHanded {} Try.checked os 4 .any ((Rows.OpenSpec.upto Rows.diffRollsSpec).pre6 enc Try.prog Try.f4 Rows.diffRollsUptoRow.domain false) (((Rows.OpenSpec.upto Rows.diffRollsSpec).at F).post enc Try.prog Try.f4 false true false false) := by
  refine returnsInHanded_of_cond_sized (C := Try.checked) (s := Rows.OpenSpec.upto Rows.diffRollsSpec) (k := Rows.uptoSmall) rfl Try.own started (by kernel_rfl) Try.func4
    (OpenSpec.witness (enc := enc) (C := Try.checked) (s := Rows.OpenSpec.upto Rows.diffRollsSpec) (k := Rows.uptoSmall) rfl false ⟨#[], #[.agg #[.int .i64 0, .int .i64 0, .slice none 0 0, .slice none 0 0, .slice none 0 0, .slice none 0 0, .slice none 0 0, .slice none 0 0, .slice none 0 0], .int .i64 0], []⟩ 8 (by kernel_rfl) (by kernel_rfl) (by kernel_rfl)
      (x := ([.agg [.lit (.int .i64 0), .lit (.int .i64 0), .nil, .nil, .nil, .nil, .nil, .nil, .nil], .lit (.int .i64 0)], [], [])) (by kernel_rfl) rfl (by kernel_rfl)) ?_
  intro W base args ds gs before hval hW _ hk hwt _
  have hW' := hW
  obtain ⟨p, q, hA, _⟩ := hW'
  rw [Try.params4] at hA
  obtain ⟨_, _, _, _, _, _, _, rfl, _⟩ := trodAll_two hA
  have hsm := small_wt hk
  exact law_calls_wt (s := Rows.diffRollsSpec) 16 c4 Try.laidOut (by kernel_rfl) (by kernel_rfl) rfl (by kernel_rfl) (tb := 4) (by kernel_rfl) rfl rfl hval hW hwt (fun xs _ hx => ⟨Nat.le_trans hx hsm, rfl⟩)

theorem diffRolls_holds : Rows.DiffRollsUptoSaid :=
  OpenClaim.holds_of_cond 4 Try.f4 rfl rfl rfl rfl rfl rfl rfl ⟨rfl, rfl, rfl, rfl, rfl⟩ rfl rfl rfl rfl rfl (by kernel_rfl) Try.func4 (by kernel_rfl)
    (of_decide_eq_true (by kernel_rfl)) (by unfold Func.isWrapper; rw [if_neg (by decide +kernel)]; exact ⟨rfl, rfl⟩)
    (fun os started H enc _ F => diffRolls_lifted os started H enc F)

end Go.Proofs.Ytippnelhkdjknaa
