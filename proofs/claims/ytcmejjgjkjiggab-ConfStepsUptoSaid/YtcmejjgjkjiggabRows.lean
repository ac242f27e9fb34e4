/-
  No cell of these rows narrows 'for every input' (looked for: loops, veiled, ifaces, maps, wideKeys, modest, calm, conditions, laid).
  DERIVED. THE GIVEN ROWS OF THIS SEAT. 3 by the template 'for every input the law returns true; each argument reads behind the call as it read before'; 0 by the template 'total and deterministic' (their statements: YtcmejjgjkjiggabTotals.lean).
  GIVEN WITH THE SEED: the statements are not yours to turn. If you find one false, say at which input.
  Laid BY PROGRAM, IN A SANDBOX (cutbox-rows.mjs): the forced cells as the released guide's own fill.sh prints them over the translation 84f84adc83b4a6c4… (all of the seat's roots in one cut). By AI agents, Wed Nov 11 2026. No macro, syntax, notation, axiom, sorry.
-/
import Derived.Test.YtcmejjgjkjiggabChecked
import GoSem.Claim
import GoSem.ClaimJoined
import GoSem.ClaimMapViews
import Derived.JoinedTies
import Derived.KernelRfl
namespace Go.Proofs.Ytcmejjgjkjiggab
/- THE CELL 'sum', in the pinned program and in every row, IS THE sha256 OF THE DUMP (.gsa) THAT YtcmejjgjkjiggabProg.lean LOADS. Nothing in Lean hashes anything: it is a label: what it is worth is what the hold of that sum in a sandbox is worth. -/
noncomputable def Try.pinned : Pinned := { name := "ytcmejjgjkjiggab", sum := "84f84adc83b4a6c4722ed4a2b0d311dfc5054d459a268f831d6d0348ee873b27", checked := Try.checked }
namespace Rows
def none {H : Type} : Left H := { results := [], args := [] }

/-- 'coxswainlaw07.ConfChanges': WHATEVER THE INPUT: true; the input reads as it did. -/
def confChangesSpec : ChangeSpec := { name := "confChanges", fn := fun _ => fun
  | [d1, d2, d3] => { results := [.lit (.bool true)], args := [d1, d2, d3] }
  | _ => none }
def confChangesRow : OpenClaim := { program := "ytcmejjgjkjiggab", sum := "84f84adc83b4a6c4722ed4a2b0d311dfc5054d459a268f831d6d0348ee873b27", func := "coxswain/coxswainlaw07.ConfChanges", spec := "confChanges", recurses := true, apart := false }
def ConfChangesSaid : Prop := confChangesRow.holds Try.pinned (OpenSpec.ofChange confChangesSpec)

/-- ITS FALSE NEIGHBOUR: 'it returns false'. Refute it at one input. -/
def confChangesWrong : ChangeSpec := { name := "confChanges", fn := fun _ => fun
  | [d1, d2, d3] => { results := [.lit (.bool false)], args := [d1, d2, d3] }
  | _ => none }
def ConfChangesWrongFalsely : Prop := confChangesRow.holds Try.pinned (OpenSpec.ofChange confChangesWrong)

/-- 'coxswainlaw07.ConfGrows': WHATEVER THE INPUT: true; the input reads as it did. -/
def confGrowsSpec : ChangeSpec := { name := "confGrows", fn := fun _ => fun
  | [d1, d2] => { results := [.lit (.bool true)], args := [d1, d2] }
  | _ => none }
def confGrowsRow : OpenClaim := { program := "ytcmejjgjkjiggab", sum := "84f84adc83b4a6c4722ed4a2b0d311dfc5054d459a268f831d6d0348ee873b27", func := "coxswain/coxswainlaw07.ConfGrows", spec := "confGrows", recurses := true, apart := false }
def ConfGrowsSaid : Prop := confGrowsRow.holds Try.pinned (OpenSpec.ofChange confGrowsSpec)

/-- ITS FALSE NEIGHBOUR: 'it returns false'. Refute it at one input. -/
def confGrowsWrong : ChangeSpec := { name := "confGrows", fn := fun _ => fun
  | [d1, d2] => { results := [.lit (.bool false)], args := [d1, d2] }
  | _ => none }
def ConfGrowsWrongFalsely : Prop := confGrowsRow.holds Try.pinned (OpenSpec.ofChange confGrowsWrong)

/-- 'coxswainlaw07.ConfSteps': WHATEVER THE INPUT: true; the input reads as it did. -/
def confStepsSpec : ChangeSpec := { name := "confSteps", fn := fun _ => fun
  | [d1, d2] => { results := [.lit (.bool true)], args := [d1, d2] }
  | _ => none }
def confStepsRow : OpenClaim := { program := "ytcmejjgjkjiggab", sum := "84f84adc83b4a6c4722ed4a2b0d311dfc5054d459a268f831d6d0348ee873b27", func := "coxswain/coxswainlaw07.ConfSteps", spec := "confSteps", recurses := true, apart := false }
def ConfStepsSaid : Prop := confStepsRow.holds Try.pinned (OpenSpec.ofChange confStepsSpec)

/-- ITS FALSE NEIGHBOUR: 'it returns false'. Refute it at one input. -/
def confStepsWrong : ChangeSpec := { name := "confSteps", fn := fun _ => fun
  | [d1, d2] => { results := [.lit (.bool false)], args := [d1, d2] }
  | _ => none }
def ConfStepsWrongFalsely : Prop := confStepsRow.holds Try.pinned (OpenSpec.ofChange confStepsWrong)

/- THE SECOND FORM. 'bulk': how many values and letters a reading holds, each counted each time it is reached (what is shared counts as often as it is met; a slice's spare places count too). A statement '..UptoSaid' is the law's where the arguments, and the package variables that the reading takes, are together of bulk at most 1048576: NARROWER than '..Said'. Prove '..Said' where nothing that the law and all that it calls make is longer than what came in: it says more and counts as full. Else prove '..UptoSaid'. A law counts once. -/
mutual
def uptoBulk {H : Type} : DataW H → Nat
  | .lit (.string bytes) => bytes.length + 1
  | .lit _ => 1
  | .nil => 1
  | .ptr d => uptoBulk d + 1
  | .slice elems spare => uptoBulkAll elems + uptoBulkAll spare + 1
  | .agg parts => uptoBulkAll parts + 1
  | .iface _ d => uptoBulk d + 1
  | .map entries => uptoBulkEntries entries + 1
  | .held _ => 1
def uptoBulkAll {H : Type} : List (DataW H) → Nat
  | [] => 0
  | d :: r => uptoBulk d + uptoBulkAll r
def uptoBulkEntries {H : Type} : List (Lit × DataW H) → Nat
  | [] => 0
  | x :: r => uptoBulkEntry x + uptoBulkEntries r
def uptoBulkEntry {H : Type} : Lit × DataW H → Nat
  | (.string bytes, d) => bytes.length + uptoBulk d + 1
  | (_, d) => uptoBulk d + 1
 end
def uptoSmall : (H : Type) → List (DataW H) → Bool := fun _ ds => decide (uptoBulkAll ds ≤ 1048576)
def OpenSpec.upto (s : _root_.Go.ChangeSpec) : _root_.Go.OpenSpec := { _root_.Go.OpenSpec.ofChange s with cond := some uptoSmall }

/-- 'coxswainlaw07.ConfChanges', WHERE WHAT IT READS IS OF BULK AT MOST 1048576: true; the input reads as it did. -/
def confChangesUptoRow : OpenClaim := { program := "ytcmejjgjkjiggab", sum := "84f84adc83b4a6c4722ed4a2b0d311dfc5054d459a268f831d6d0348ee873b27", func := "coxswain/coxswainlaw07.ConfChanges", spec := "confChanges", recurses := true, apart := false, narrowed := true }
def ConfChangesUptoSaid : Prop := confChangesUptoRow.holds Try.pinned (OpenSpec.upto confChangesSpec)

/-- 'coxswainlaw07.ConfGrows', WHERE WHAT IT READS IS OF BULK AT MOST 1048576: true; the input reads as it did. -/
def confGrowsUptoRow : OpenClaim := { program := "ytcmejjgjkjiggab", sum := "84f84adc83b4a6c4722ed4a2b0d311dfc5054d459a268f831d6d0348ee873b27", func := "coxswain/coxswainlaw07.ConfGrows", spec := "confGrows", recurses := true, apart := false, narrowed := true }
def ConfGrowsUptoSaid : Prop := confGrowsUptoRow.holds Try.pinned (OpenSpec.upto confGrowsSpec)

/-- 'coxswainlaw07.ConfSteps', WHERE WHAT IT READS IS OF BULK AT MOST 1048576: true; the input reads as it did. -/
def confStepsUptoRow : OpenClaim := { program := "ytcmejjgjkjiggab", sum := "84f84adc83b4a6c4722ed4a2b0d311dfc5054d459a268f831d6d0348ee873b27", func := "coxswain/coxswainlaw07.ConfSteps", spec := "confSteps", recurses := true, apart := false, narrowed := true }
def ConfStepsUptoSaid : Prop := confStepsUptoRow.holds Try.pinned (OpenSpec.upto confStepsSpec)

end Rows
end Go.Proofs.Ytcmejjgjkjiggab
