/-
  No cell of these rows narrows 'for every input' (looked for: loops, veiled, ifaces, maps, wideKeys, modest, calm, conditions, laid).
  DERIVED. THE GIVEN ROWS OF THIS SEAT. 6 by the template 'for every input the law returns true; each argument reads behind the call as it read before'; 0 by the template 'total and deterministic' (their statements: YtcmejjgjkjiggaaTotals.lean).
  GIVEN WITH THE SEED: the statements are not yours to turn. If you find one false, say at which input.
  Laid BY PROGRAM, IN A SANDBOX (cutbox-rows.mjs): the forced cells as the released guide's own fill.sh prints them over the translation 5a58ada402f36a42… (all of the seat's roots in one cut). By AI agents, Wed Nov 11 2026. No macro, syntax, notation, axiom, sorry.
-/
import Derived.Test.YtcmejjgjkjiggaaChecked
import GoSem.Claim
import GoSem.ClaimJoined
import GoSem.ClaimMapViews
import Derived.JoinedTies
import Derived.KernelRfl
namespace Go.Proofs.Ytcmejjgjkjiggaa
/- THE CELL 'sum', in the pinned program and in every row, IS THE sha256 OF THE DUMP (.gsa) THAT YtcmejjgjkjiggaaProg.lean LOADS. Nothing in Lean hashes anything: it is a label: what it is worth is what the hold of that sum in a sandbox is worth. -/
noncomputable def Try.pinned : Pinned := { name := "ytcmejjgjkjiggaa", sum := "5a58ada402f36a422e1b4321f114653a35ef1af585bc016555675fcb571bd1df", checked := Try.checked }
namespace Rows
def none {H : Type} : Left H := { results := [], args := [] }

/-- 'coxswainlaw07.ConfCounts': WHATEVER THE INPUT: true; the input reads as it did. -/
def confCountsSpec : ChangeSpec := { name := "confCounts", fn := fun _ => fun
  | [d1, d2, d3] => { results := [.lit (.bool true)], args := [d1, d2, d3] }
  | _ => none }
def confCountsRow : OpenClaim := { program := "ytcmejjgjkjiggaa", sum := "5a58ada402f36a422e1b4321f114653a35ef1af585bc016555675fcb571bd1df", func := "coxswain/coxswainlaw07.ConfCounts", spec := "confCounts", recurses := true, apart := false }
def ConfCountsSaid : Prop := confCountsRow.holds Try.pinned (OpenSpec.ofChange confCountsSpec)

/-- ITS FALSE NEIGHBOUR: 'it returns false'. Refute it at one input. -/
def confCountsWrong : ChangeSpec := { name := "confCounts", fn := fun _ => fun
  | [d1, d2, d3] => { results := [.lit (.bool false)], args := [d1, d2, d3] }
  | _ => none }
def ConfCountsWrongFalsely : Prop := confCountsRow.holds Try.pinned (OpenSpec.ofChange confCountsWrong)

/-- 'coxswainlaw07.ConfAgrees': WHATEVER THE INPUT: true; the input reads as it did. -/
def confAgreesSpec : ChangeSpec := { name := "confAgrees", fn := fun _ => fun
  | [d1, d2] => { results := [.lit (.bool true)], args := [d1, d2] }
  | _ => none }
def confAgreesRow : OpenClaim := { program := "ytcmejjgjkjiggaa", sum := "5a58ada402f36a422e1b4321f114653a35ef1af585bc016555675fcb571bd1df", func := "coxswain/coxswainlaw07.ConfAgrees", spec := "confAgrees", recurses := true, apart := false }
def ConfAgreesSaid : Prop := confAgreesRow.holds Try.pinned (OpenSpec.ofChange confAgreesSpec)

/-- ITS FALSE NEIGHBOUR: 'it returns false'. Refute it at one input. -/
def confAgreesWrong : ChangeSpec := { name := "confAgrees", fn := fun _ => fun
  | [d1, d2] => { results := [.lit (.bool false)], args := [d1, d2] }
  | _ => none }
def ConfAgreesWrongFalsely : Prop := confAgreesRow.holds Try.pinned (OpenSpec.ofChange confAgreesWrong)

/-- 'coxswainlaw07.ConfMore': WHATEVER THE INPUT: true; the input reads as it did. -/
def confMoreSpec : ChangeSpec := { name := "confMore", fn := fun _ => fun
  | [d1, d2, d3] => { results := [.lit (.bool true)], args := [d1, d2, d3] }
  | _ => none }
def confMoreRow : OpenClaim := { program := "ytcmejjgjkjiggaa", sum := "5a58ada402f36a422e1b4321f114653a35ef1af585bc016555675fcb571bd1df", func := "coxswain/coxswainlaw07.ConfMore", spec := "confMore", recurses := true, apart := false }
def ConfMoreSaid : Prop := confMoreRow.holds Try.pinned (OpenSpec.ofChange confMoreSpec)

/-- ITS FALSE NEIGHBOUR: 'it returns false'. Refute it at one input. -/
def confMoreWrong : ChangeSpec := { name := "confMore", fn := fun _ => fun
  | [d1, d2, d3] => { results := [.lit (.bool false)], args := [d1, d2, d3] }
  | _ => none }
def ConfMoreWrongFalsely : Prop := confMoreRow.holds Try.pinned (OpenSpec.ofChange confMoreWrong)

/-- 'coxswainlaw07.ConfMeets': WHATEVER THE INPUT: true; the input reads as it did. -/
def confMeetsSpec : ChangeSpec := { name := "confMeets", fn := fun _ => fun
  | [d1, d2, d3] => { results := [.lit (.bool true)], args := [d1, d2, d3] }
  | _ => none }
def confMeetsRow : OpenClaim := { program := "ytcmejjgjkjiggaa", sum := "5a58ada402f36a422e1b4321f114653a35ef1af585bc016555675fcb571bd1df", func := "coxswain/coxswainlaw07.ConfMeets", spec := "confMeets", recurses := true, apart := false }
def ConfMeetsSaid : Prop := confMeetsRow.holds Try.pinned (OpenSpec.ofChange confMeetsSpec)

/-- ITS FALSE NEIGHBOUR: 'it returns false'. Refute it at one input. -/
def confMeetsWrong : ChangeSpec := { name := "confMeets", fn := fun _ => fun
  | [d1, d2, d3] => { results := [.lit (.bool false)], args := [d1, d2, d3] }
  | _ => none }
def ConfMeetsWrongFalsely : Prop := confMeetsRow.holds Try.pinned (OpenSpec.ofChange confMeetsWrong)

/-- 'coxswainlaw07.ConfMirrors': WHATEVER THE INPUT: true; the input reads as it did. -/
def confMirrorsSpec : ChangeSpec := { name := "confMirrors", fn := fun _ => fun
  | [d1, d2, d3] => { results := [.lit (.bool true)], args := [d1, d2, d3] }
  | _ => none }
def confMirrorsRow : OpenClaim := { program := "ytcmejjgjkjiggaa", sum := "5a58ada402f36a422e1b4321f114653a35ef1af585bc016555675fcb571bd1df", func := "coxswain/coxswainlaw07.ConfMirrors", spec := "confMirrors", recurses := true, apart := false }
def ConfMirrorsSaid : Prop := confMirrorsRow.holds Try.pinned (OpenSpec.ofChange confMirrorsSpec)

/-- ITS FALSE NEIGHBOUR: 'it returns false'. Refute it at one input. -/
def confMirrorsWrong : ChangeSpec := { name := "confMirrors", fn := fun _ => fun
  | [d1, d2, d3] => { results := [.lit (.bool false)], args := [d1, d2, d3] }
  | _ => none }
def ConfMirrorsWrongFalsely : Prop := confMirrorsRow.holds Try.pinned (OpenSpec.ofChange confMirrorsWrong)

/-- 'coxswainlaw07.ConfTells': WHATEVER THE INPUT: true; the input reads as it did. -/
def confTellsSpec : ChangeSpec := { name := "confTells", fn := fun _ => fun
  | [d1, d2, d3] => { results := [.lit (.bool true)], args := [d1, d2, d3] }
  | _ => none }
def confTellsRow : OpenClaim := { program := "ytcmejjgjkjiggaa", sum := "5a58ada402f36a422e1b4321f114653a35ef1af585bc016555675fcb571bd1df", func := "coxswain/coxswainlaw07.ConfTells", spec := "confTells", recurses := true, apart := false }
def ConfTellsSaid : Prop := confTellsRow.holds Try.pinned (OpenSpec.ofChange confTellsSpec)

/-- ITS FALSE NEIGHBOUR: 'it returns false'. Refute it at one input. -/
def confTellsWrong : ChangeSpec := { name := "confTells", fn := fun _ => fun
  | [d1, d2, d3] => { results := [.lit (.bool false)], args := [d1, d2, d3] }
  | _ => none }
def ConfTellsWrongFalsely : Prop := confTellsRow.holds Try.pinned (OpenSpec.ofChange confTellsWrong)

/- THE SECOND FORM. 'bulk': how many values and letters a reading holds, each counted each time it is reached (what is shared counts as often as it is met; a slice's spare places count too). A statement '..UptoSaid' is the law's where the arguments, and the package variables that the reading takes, are together of bulk at most 1048576: NARROWER than '..Said'. Prove '..Said' where nothing that the law and all that it calls make is longer than what came in: it says more and counts as full. Else prove '..UptoSaid'. A law counts once. -/
mutual
def uptoBulk {H : Type} : DataW H → Nat
  | .lit (.string bytes) => bytes.length + 1
  | .lit _ => 1
  | .nil => 1
  | .ptr d => uptoBulk d + 1
  | .slice elems spare => uptoBulkAll elems + uptoBulkAll spare + 1
  | .agg parts => uptoBulkAll parts + 1
  | .iface _ d => uptoBulk d + 1
  | .map entries => uptoBulkEntries entries + 1
  | .held _ => 1
def uptoBulkAll {H : Type} : List (DataW H) → Nat
  | [] => 0
  | d :: r => uptoBulk d + uptoBulkAll r
def uptoBulkEntries {H : Type} : List (Lit × DataW H) → Nat
  | [] => 0
  | x :: r => uptoBulkEntry x + uptoBulkEntries r
def uptoBulkEntry {H : Type} : Lit × DataW H → Nat
  | (.string bytes, d) => bytes.length + uptoBulk d + 1
  | (_, d) => uptoBulk d + 1
 end
def uptoSmall : (H : Type) → List (DataW H) → Bool := fun _ ds => decide (uptoBulkAll ds ≤ 1048576)
def OpenSpec.upto (s : _root_.Go.ChangeSpec) : _root_.Go.OpenSpec := { _root_.Go.OpenSpec.ofChange s with cond := some uptoSmall }

/-- 'coxswainlaw07.ConfCounts', WHERE WHAT IT READS IS OF BULK AT MOST 1048576: true; the input reads as it did. -/
def confCountsUptoRow : OpenClaim := { program := "ytcmejjgjkjiggaa", sum := "5a58ada402f36a422e1b4321f114653a35ef1af585bc016555675fcb571bd1df", func := "coxswain/coxswainlaw07.ConfCounts", spec := "confCounts", recurses := true, apart := false, narrowed := true }
def ConfCountsUptoSaid : Prop := confCountsUptoRow.holds Try.pinned (OpenSpec.upto confCountsSpec)

/-- 'coxswainlaw07.ConfAgrees', WHERE WHAT IT READS IS OF BULK AT MOST 1048576: true; the input reads as it did. -/
def confAgreesUptoRow : OpenClaim := { program := "ytcmejjgjkjiggaa", sum := "5a58ada402f36a422e1b4321f114653a35ef1af585bc016555675fcb571bd1df", func := "coxswain/coxswainlaw07.ConfAgrees", spec := "confAgrees", recurses := true, apart := false, narrowed := true }
def ConfAgreesUptoSaid : Prop := confAgreesUptoRow.holds Try.pinned (OpenSpec.upto confAgreesSpec)

/-- 'coxswainlaw07.ConfMore', WHERE WHAT IT READS IS OF BULK AT MOST 1048576: true; the input reads as it did. -/
def confMoreUptoRow : OpenClaim := { program := "ytcmejjgjkjiggaa", sum := "5a58ada402f36a422e1b4321f114653a35ef1af585bc016555675fcb571bd1df", func := "coxswain/coxswainlaw07.ConfMore", spec := "confMore", recurses := true, apart := false, narrowed := true }
def ConfMoreUptoSaid : Prop := confMoreUptoRow.holds Try.pinned (OpenSpec.upto confMoreSpec)

/-- 'coxswainlaw07.ConfMeets', WHERE WHAT IT READS IS OF BULK AT MOST 1048576: true; the input reads as it did. -/
def confMeetsUptoRow : OpenClaim := { program := "ytcmejjgjkjiggaa", sum := "5a58ada402f36a422e1b4321f114653a35ef1af585bc016555675fcb571bd1df", func := "coxswain/coxswainlaw07.ConfMeets", spec := "confMeets", recurses := true, apart := false, narrowed := true }
def ConfMeetsUptoSaid : Prop := confMeetsUptoRow.holds Try.pinned (OpenSpec.upto confMeetsSpec)

/-- 'coxswainlaw07.ConfMirrors', WHERE WHAT IT READS IS OF BULK AT MOST 1048576: true; the input reads as it did. -/
def confMirrorsUptoRow : OpenClaim := { program := "ytcmejjgjkjiggaa", sum := "5a58ada402f36a422e1b4321f114653a35ef1af585bc016555675fcb571bd1df", func := "coxswain/coxswainlaw07.ConfMirrors", spec := "confMirrors", recurses := true, apart := false, narrowed := true }
def ConfMirrorsUptoSaid : Prop := confMirrorsUptoRow.holds Try.pinned (OpenSpec.upto confMirrorsSpec)

/-- 'coxswainlaw07.ConfTells', WHERE WHAT IT READS IS OF BULK AT MOST 1048576: true; the input reads as it did. -/
def confTellsUptoRow : OpenClaim := { program := "ytcmejjgjkjiggaa", sum := "5a58ada402f36a422e1b4321f114653a35ef1af585bc016555675fcb571bd1df", func := "coxswain/coxswainlaw07.ConfTells", spec := "confTells", recurses := true, apart := false, narrowed := true }
def ConfTellsUptoSaid : Prop := confTellsUptoRow.holds Try.pinned (OpenSpec.upto confTellsSpec)

end Rows
end Go.Proofs.Ytcmejjgjkjiggaa
