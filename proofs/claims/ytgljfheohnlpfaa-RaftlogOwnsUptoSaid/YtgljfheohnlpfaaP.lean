/-
  The statements of this seat: each law gives true, whatever its arguments, and its arguments read as they did; no condition.
-/
import Derived.Test.YtgljfheohnlpfaaRows
import Derived.Test.YtgljfheohnlpfaaCN
import Derived.Test.YtgljfheohnlpfaaEngW
import Derived.SizedLaws
import Derived.JoinedCond
import Derived.Deep.CondSized
namespace Go.Proofs.Ytgljfheohnlpfaa
open Go.ChangeShapes Go.WideShapes Go.ChangeAt Go.RowKit Go.Eng

theorem Try.own : ownKnob Try.prog.godebug = none := by kernel_rfl
theorem Try.laidOut : laidOutB Try.prog = true := by kernel_rfl

mutual
theorem dwt_bulk {H : Type} : ∀ d : DataW H, dwt d + 1 ≤ Rows.uptoBulk d
  | .lit v => by cases v <;> simp [dwt, Rows.uptoBulk]
  | .nil => by simp [dwt, Rows.uptoBulk]
  | .ptr d => by simp [dwt, Rows.uptoBulk]
  | .slice e s => by
    have := dwtL_bulk e
    simp only [dwt, Rows.uptoBulk]; omega
  | .agg p => by
    have := dwtL_bulk p
    simp only [dwt, Rows.uptoBulk]; omega
  | .iface _ d => by simp [dwt, Rows.uptoBulk]
  | .map e => by simp [dwt, Rows.uptoBulk]
  | .held _ => by simp [dwt, Rows.uptoBulk]
theorem dwtL_bulk {H : Type} : ∀ l : List (DataW H), dwtL l + l.length ≤ Rows.uptoBulkAll l
  | [] => by simp [dwtL, Rows.uptoBulkAll]
  | d :: r => by
    have h1 := dwt_bulk d
    have h2 := dwtL_bulk r
    simp only [dwtL, Rows.uptoBulkAll, List.length_cons]; omega
end
theorem small_wt {H : Type} {ds : List (DataW H)} (hk : Rows.uptoSmall H ds = true) : dwtL ds ≤ 1048576 := by
  have h : Rows.uptoBulkAll ds ≤ 1048576 := of_decide_eq_true hk
  have := dwtL_bulk ds
  omega

set_option maxRecDepth 100000 in
theorem raftlogOwns_lifted (os : Os) (started : os.Started) (H : Type) (enc : TypeId × Value → H) (F : Stop.Interp) :
    ReturnsInHanded {} Try.checked os 6 .any ((Rows.OpenSpec.upto Rows.raftlogOwnsSpec).pre6 enc Try.prog Try.f6 Rows.raftlogOwnsUptoRow.domain false) (((Rows.OpenSpec.upto Rows.raftlogOwnsSpec).at F).post enc Try.prog Try.f6 false true false false) := by
  refine returnsInHanded_of_cond_sized (C := Try.checked) (s := Rows.OpenSpec.upto Rows.raftlogOwnsSpec) (k := Rows.uptoSmall) rfl Try.own started (by kernel_rfl) Try.func6
    (OpenSpec.witness (enc := enc) (C := Try.checked) (s := Rows.OpenSpec.upto Rows.raftlogOwnsSpec) (k := Rows.uptoSmall) rfl false ⟨#[], #[.slice none 0 0], []⟩ 8 (by kernel_rfl) (by kernel_rfl) (by kernel_rfl)
      (x := ([.nil], [], [])) (by kernel_rfl) rfl (by kernel_rfl)) ?_
  intro W base args ds gs before hval hW _ hk hwt _
  have hW' := hW
  obtain ⟨p, q, hA, _⟩ := hW'
  rw [Try.params6] at hA
  obtain ⟨_, _, _, rfl, _⟩ := trodAll_one hA
  have hsm := small_wt hk
  exact law_calls_wt (s := Rows.raftlogOwnsSpec) 16 c6 Try.laidOut (by kernel_rfl) (by kernel_rfl) rfl (by kernel_rfl) (tb := 4) (by kernel_rfl) rfl rfl hval hW hwt (fun xs _ hx => ⟨Nat.le_trans hx hsm, rfl⟩)

theorem raftlogOwns_holds : Rows.RaftlogOwnsUptoSaid :=
  OpenClaim.holds_of_cond 6 Try.f6 rfl rfl rfl rfl rfl rfl rfl ⟨rfl, rfl, rfl, rfl, rfl⟩ rfl rfl rfl rfl rfl (by kernel_rfl) Try.func6 (by kernel_rfl)
    (of_decide_eq_true (by kernel_rfl)) (by unfold Func.isWrapper; rw [if_neg (by decide +kernel)]; exact ⟨rfl, rfl⟩)
    (fun os started H enc _ F => raftlogOwns_lifted os started H enc F)

set_option maxRecDepth 100000 in
theorem raftlogPlays_lifted (os : Os) (started : os.Started) (H : Type) (enc : TypeId × Value → H) (F : Stop.Interp) :
    ReturnsInHanded {} Try.checked os 4 .any ((Rows.OpenSpec.upto Rows.raftlogPlaysSpec).pre6 enc Try.prog Try.f4 Rows.raftlogPlaysUptoRow.domain false) (((Rows.OpenSpec.upto Rows.raftlogPlaysSpec).at F).post enc Try.prog Try.f4 false true false false) := by
  refine returnsInHanded_of_cond_sized (C := Try.checked) (s := Rows.OpenSpec.upto Rows.raftlogPlaysSpec) (k := Rows.uptoSmall) rfl Try.own started (by kernel_rfl) Try.func4
    (OpenSpec.witness (enc := enc) (C := Try.checked) (s := Rows.OpenSpec.upto Rows.raftlogPlaysSpec) (k := Rows.uptoSmall) rfl false ⟨#[], #[.int .i64 0, .int .i64 0, .slice none 0 0], []⟩ 8 (by kernel_rfl) (by kernel_rfl) (by kernel_rfl)
      (x := ([.lit (.int .i64 0), .lit (.int .i64 0), .nil], [], [])) (by kernel_rfl) rfl (by kernel_rfl)) ?_
  intro W base args ds gs before hval hW _ hk hwt _
  have hW' := hW
  obtain ⟨p, q, hA, _⟩ := hW'
  rw [Try.params4] at hA
  obtain ⟨_, _, _, _, _, _, _, _, _, _, rfl, _⟩ := trodAll_three hA
  have hsm := small_wt hk
  exact law_calls_wt (s := Rows.raftlogPlaysSpec) 16 c4all Try.laidOut (by kernel_rfl) (by kernel_rfl) rfl (by kernel_rfl) (tb := 4) (by kernel_rfl) rfl rfl hval hW hwt (fun xs _ hx => ⟨Nat.le_trans hx hsm, rfl⟩)

theorem raftlogPlays_holds : Rows.RaftlogPlaysUptoSaid :=
  OpenClaim.holds_of_cond 4 Try.f4 rfl rfl rfl rfl rfl rfl rfl ⟨rfl, rfl, rfl, rfl, rfl⟩ rfl rfl rfl rfl rfl (by kernel_rfl) Try.func4 (by kernel_rfl)
    (of_decide_eq_true (by kernel_rfl)) (by unfold Func.isWrapper; rw [if_neg (by decide +kernel)]; exact ⟨rfl, rfl⟩)
    (fun os started H enc _ F => raftlogPlays_lifted os started H enc F)

set_option maxRecDepth 100000 in
theorem raftlogRising_lifted (os : Os) (started : os.Started) (H : Type) (enc : TypeId × Value → H) (F : Stop.Interp) :
    ReturnsInHanded {} Try.checked os 7 .any ((Rows.OpenSpec.upto Rows.raftlogRisingSpec).pre6 enc Try.prog Try.f7 Rows.raftlogRisingUptoRow.domain false) (((Rows.OpenSpec.upto Rows.raftlogRisingSpec).at F).post enc Try.prog Try.f7 false true false false) := by
  refine returnsInHanded_of_cond_sized (C := Try.checked) (s := Rows.OpenSpec.upto Rows.raftlogRisingSpec) (k := Rows.uptoSmall) rfl Try.own started (by kernel_rfl) Try.func7
    (OpenSpec.witness (enc := enc) (C := Try.checked) (s := Rows.OpenSpec.upto Rows.raftlogRisingSpec) (k := Rows.uptoSmall) rfl false ⟨#[], #[.slice none 0 0], []⟩ 8 (by kernel_rfl) (by kernel_rfl) (by kernel_rfl)
      (x := ([.nil], [], [])) (by kernel_rfl) rfl (by kernel_rfl)) ?_
  intro W base args ds gs before hval hW _ hk hwt _
  have hW' := hW
  obtain ⟨p, q, hA, _⟩ := hW'
  rw [Try.params7] at hA
  obtain ⟨_, _, _, rfl, _⟩ := trodAll_one hA
  have hsm := small_wt hk
  exact law_calls_wt (s := Rows.raftlogRisingSpec) 16 c7 Try.laidOut (by kernel_rfl) (by kernel_rfl) rfl (by kernel_rfl) (tb := 4) (by kernel_rfl) rfl rfl hval hW hwt (fun xs _ hx => ⟨Nat.le_trans hx hsm, rfl⟩)

theorem raftlogRising_holds : Rows.RaftlogRisingUptoSaid :=
  OpenClaim.holds_of_cond 7 Try.f7 rfl rfl rfl rfl rfl rfl rfl ⟨rfl, rfl, rfl, rfl, rfl⟩ rfl rfl rfl rfl rfl (by kernel_rfl) Try.func7 (by kernel_rfl)
    (of_decide_eq_true (by kernel_rfl)) (by unfold Func.isWrapper; rw [if_neg (by decide +kernel)]; exact ⟨rfl, rfl⟩)
    (fun os started H enc _ F => raftlogRising_lifted os started H enc F)

set_option maxRecDepth 100000 in
theorem raftlogCompacts_lifted (os : Os) (started : os.Started) (H : Type) (enc : TypeId × Value → H) (F : Stop.Interp) :
    ReturnsInHanded {} Try.checked os 5 .any ((Rows.OpenSpec.upto Rows.raftlogCompactsSpec).pre6 enc Try.prog Try.f5 Rows.raftlogCompactsUptoRow.domain false) (((Rows.OpenSpec.upto Rows.raftlogCompactsSpec).at F).post enc Try.prog Try.f5 false true false false) := by
  refine returnsInHanded_of_cond_sized (C := Try.checked) (s := Rows.OpenSpec.upto Rows.raftlogCompactsSpec) (k := Rows.uptoSmall) rfl Try.own started (by kernel_rfl) Try.func5
    (OpenSpec.witness (enc := enc) (C := Try.checked) (s := Rows.OpenSpec.upto Rows.raftlogCompactsSpec) (k := Rows.uptoSmall) rfl false ⟨#[], #[.slice none 0 0, .int .i64 0], []⟩ 8 (by kernel_rfl) (by kernel_rfl) (by kernel_rfl)
      (x := ([.nil, .lit (.int .i64 0)], [], [])) (by kernel_rfl) rfl (by kernel_rfl)) ?_
  intro W base args ds gs before hval hW _ hk hwt _
  have hW' := hW
  obtain ⟨p, q, hA, _⟩ := hW'
  rw [Try.params5] at hA
  obtain ⟨_, _, _, _, _, _, _, rfl, _⟩ := trodAll_two hA
  have hsm := small_wt hk
  exact law_calls_wt (s := Rows.raftlogCompactsSpec) 16 c5 Try.laidOut (by kernel_rfl) (by kernel_rfl) rfl (by kernel_rfl) (tb := 4) (by kernel_rfl) rfl rfl hval hW hwt (fun xs _ hx => ⟨Nat.le_trans hx hsm, rfl⟩)

theorem raftlogCompacts_holds : Rows.RaftlogCompactsUptoSaid :=
  OpenClaim.holds_of_cond 5 Try.f5 rfl rfl rfl rfl rfl rfl rfl ⟨rfl, rfl, rfl, rfl, rfl⟩ rfl rfl rfl rfl rfl (by kernel_rfl) Try.func5 (by kernel_rfl)
    (of_decide_eq_true (by kernel_rfl)) (by unfold Func.isWrapper; rw [if_neg (by decide +kernel)]; exact ⟨rfl, rfl⟩)
    (fun os started H enc _ F => raftlogCompacts_lifted os started H enc F)

set_option maxRecDepth 100000 in
theorem raftlogPieces_lifted (os : Os) (started : os.Started) (H : Type) (enc : TypeId × Value → H) (F : Stop.Interp) :
    ReturnsInHanded {} Try.checked os 8 .any ((Rows.OpenSpec.upto Rows.raftlogPiecesSpec).pre6 enc Try.prog Try.f8 Rows.raftlogPiecesUptoRow.domain false) (((Rows.OpenSpec.upto Rows.raftlogPiecesSpec).at F).post enc Try.prog Try.f8 false true false false) := by
  refine returnsInHanded_of_cond_sized (C := Try.checked) (s := Rows.OpenSpec.upto Rows.raftlogPiecesSpec) (k := Rows.uptoSmall) rfl Try.own started (by kernel_rfl) Try.func8
    (OpenSpec.witness (enc := enc) (C := Try.checked) (s := Rows.OpenSpec.upto Rows.raftlogPiecesSpec) (k := Rows.uptoSmall) rfl false ⟨#[], #[.slice none 0 0, .int .i64 0], []⟩ 8 (by kernel_rfl) (by kernel_rfl) (by kernel_rfl)
      (x := ([.nil, .lit (.int .i64 0)], [], [])) (by kernel_rfl) rfl (by kernel_rfl)) ?_
  intro W base args ds gs before hval hW _ hk hwt _
  have hW' := hW
  obtain ⟨p, q, hA, _⟩ := hW'
  rw [Try.params8] at hA
  obtain ⟨_, _, _, _, _, _, _, rfl, _⟩ := trodAll_two hA
  have hsm := small_wt hk
  exact law_calls_wt (s := Rows.raftlogPiecesSpec) 16 c8 Try.laidOut (by kernel_rfl) (by kernel_rfl) rfl (by kernel_rfl) (tb := 4) (by kernel_rfl) rfl rfl hval hW hwt (fun xs _ hx => ⟨Nat.le_trans hx hsm, rfl⟩)

theorem raftlogPieces_holds : Rows.RaftlogPiecesUptoSaid :=
  OpenClaim.holds_of_cond 8 Try.f8 rfl rfl rfl rfl rfl rfl rfl ⟨rfl, rfl, rfl, rfl, rfl⟩ rfl rfl rfl rfl rfl (by kernel_rfl) Try.func8 (by kernel_rfl)
    (of_decide_eq_true (by kernel_rfl)) (by unfold Func.isWrapper; rw [if_neg (by decide +kernel)]; exact ⟨rfl, rfl⟩)
    (fun os started H enc _ F => raftlogPieces_lifted os started H enc F)

set_option maxRecDepth 100000 in
theorem raftlogAlike_lifted (os : Os) (started : os.Started) (H : Type) (enc : TypeId × Value → H) (F : Stop.Interp) :
    ReturnsInHanded {} Try.checked os 3 .any ((Rows.OpenSpec.upto Rows.raftlogAlikeSpec).pre6 enc Try.prog Try.f3 Rows.raftlogAlikeUptoRow.domain false) (((Rows.OpenSpec.upto Rows.raftlogAlikeSpec).at F).post enc Try.prog Try.f3 false true false false) := by
  refine returnsInHanded_of_cond_sized (C := Try.checked) (s := Rows.OpenSpec.upto Rows.raftlogAlikeSpec) (k := Rows.uptoSmall) rfl Try.own started (by kernel_rfl) Try.func3
    (OpenSpec.witness (enc := enc) (C := Try.checked) (s := Rows.OpenSpec.upto Rows.raftlogAlikeSpec) (k := Rows.uptoSmall) rfl false ⟨#[], #[.slice none 0 0, .slice none 0 0, .slice none 0 0], []⟩ 8 (by kernel_rfl) (by kernel_rfl) (by kernel_rfl)
      (x := ([.nil, .nil, .nil], [], [])) (by kernel_rfl) rfl (by kernel_rfl)) ?_
  intro W base args ds gs before hval hW _ hk hwt _
  have hW' := hW
  obtain ⟨p, q, hA, _⟩ := hW'
  rw [Try.params3] at hA
  obtain ⟨_, _, _, _, _, _, _, _, _, _, rfl, _⟩ := trodAll_three hA
  have hsm := small_wt hk
  exact law_calls_wt (s := Rows.raftlogAlikeSpec) 16 c3 Try.laidOut (by kernel_rfl) (by kernel_rfl) rfl (by kernel_rfl) (tb := 4) (by kernel_rfl) rfl rfl hval hW hwt (fun xs _ hx => ⟨Nat.le_trans hx hsm, rfl⟩)

theorem raftlogAlike_holds : Rows.RaftlogAlikeUptoSaid :=
  OpenClaim.holds_of_cond 3 Try.f3 rfl rfl rfl rfl rfl rfl rfl ⟨rfl, rfl, rfl, rfl, rfl⟩ rfl rfl rfl rfl rfl (by kernel_rfl) Try.func3 (by kernel_rfl)
    (of_decide_eq_true (by kernel_rfl)) (by unfold Func.isWrapper; rw [if_neg (by decide +kernel)]; exact ⟨rfl, rfl⟩)
    (fun os started H enc _ F => raftlogAlike_lifted os started H enc F)

end Go.Proofs.Ytgljfheohnlpfaa
