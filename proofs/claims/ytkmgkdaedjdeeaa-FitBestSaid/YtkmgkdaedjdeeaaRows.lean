/-
  No cell of these rows narrows 'for every input' (looked for: loops, veiled, ifaces, maps, wideKeys, modest, calm, conditions, laid).
  DERIVED. THE GIVEN ROWS OF THIS SEAT. 3 by the template 'for every input the law returns true; each argument reads behind the call as it read before'; 0 by the template 'total and deterministic' (their statements: YtkmgkdaedjdeeaaTotals.lean).
  GIVEN WITH THE SEED: the statements are not yours to turn. If you find one false, say at which input.
  Laid BY PROGRAM, IN A SANDBOX (cutbox-rows.mjs): the forced cells as the released guide's own fill.sh prints them over the translation 12e808e696786d6b… (all of the seat's roots in one cut). By AI agents, Wed Nov 11 2026. No macro, syntax, notation, axiom, sorry.
-/
import Derived.Test.YtkmgkdaedjdeeaaChecked
import GoSem.Claim
import GoSem.ClaimJoined
import GoSem.ClaimMapViews
import Derived.JoinedTies
import Derived.KernelRfl
namespace Go.Proofs.Ytkmgkdaedjdeeaa
/- THE CELL 'sum', in the pinned program and in every row, IS THE sha256 OF THE DUMP (.gsa) THAT YtkmgkdaedjdeeaaProg.lean LOADS. Nothing in Lean hashes anything: it is a label: what it is worth is what the hold of that sum in a sandbox is worth. -/
noncomputable def Try.pinned : Pinned := { name := "ytkmgkdaedjdeeaa", sum := "12e808e696786d6b9e5f8290a217569a9d4c278d8856ad8cad5d5f061754a936", checked := Try.checked }
namespace Rows
def none {H : Type} : Left H := { results := [], args := [] }

/-- 'coxswainlaw12.FitPlaces': WHATEVER THE INPUT: true; the input reads as it did. -/
def fitPlacesSpec : ChangeSpec := { name := "fitPlaces", fn := fun _ => fun
  | [d1, d2, d3] => { results := [.lit (.bool true)], args := [d1, d2, d3] }
  | _ => none }
def fitPlacesRow : OpenClaim := { program := "ytkmgkdaedjdeeaa", sum := "12e808e696786d6b9e5f8290a217569a9d4c278d8856ad8cad5d5f061754a936", func := "coxswain/coxswainlaw12.FitPlaces", spec := "fitPlaces", unfollowed := true, recurses := true, apart := false }
def FitPlacesSaid : Prop := fitPlacesRow.holds Try.pinned (OpenSpec.ofChange fitPlacesSpec)

/-- ITS FALSE NEIGHBOUR: 'it returns false'. Refute it at one input. -/
def fitPlacesWrong : ChangeSpec := { name := "fitPlaces", fn := fun _ => fun
  | [d1, d2, d3] => { results := [.lit (.bool false)], args := [d1, d2, d3] }
  | _ => none }
def FitPlacesWrongFalsely : Prop := fitPlacesRow.holds Try.pinned (OpenSpec.ofChange fitPlacesWrong)

/-- 'coxswainlaw12.FitLess': WHATEVER THE INPUT: true; the input reads as it did. -/
def fitLessSpec : ChangeSpec := { name := "fitLess", fn := fun _ => fun
  | [d1, d2, d3] => { results := [.lit (.bool true)], args := [d1, d2, d3] }
  | _ => none }
def fitLessRow : OpenClaim := { program := "ytkmgkdaedjdeeaa", sum := "12e808e696786d6b9e5f8290a217569a9d4c278d8856ad8cad5d5f061754a936", func := "coxswain/coxswainlaw12.FitLess", spec := "fitLess", unfollowed := true, recurses := true, apart := false }
def FitLessSaid : Prop := fitLessRow.holds Try.pinned (OpenSpec.ofChange fitLessSpec)

/-- ITS FALSE NEIGHBOUR: 'it returns false'. Refute it at one input. -/
def fitLessWrong : ChangeSpec := { name := "fitLess", fn := fun _ => fun
  | [d1, d2, d3] => { results := [.lit (.bool false)], args := [d1, d2, d3] }
  | _ => none }
def FitLessWrongFalsely : Prop := fitLessRow.holds Try.pinned (OpenSpec.ofChange fitLessWrong)

/-- 'coxswainlaw12.FitBest': WHATEVER THE INPUT: true; the input reads as it did. -/
def fitBestSpec : ChangeSpec := { name := "fitBest", fn := fun _ => fun
  | [d1, d2] => { results := [.lit (.bool true)], args := [d1, d2] }
  | _ => none }
def fitBestRow : OpenClaim := { program := "ytkmgkdaedjdeeaa", sum := "12e808e696786d6b9e5f8290a217569a9d4c278d8856ad8cad5d5f061754a936", func := "coxswain/coxswainlaw12.FitBest", spec := "fitBest", unfollowed := true, recurses := true, apart := false }
def FitBestSaid : Prop := fitBestRow.holds Try.pinned (OpenSpec.ofChange fitBestSpec)

/-- ITS FALSE NEIGHBOUR: 'it returns false'. Refute it at one input. -/
def fitBestWrong : ChangeSpec := { name := "fitBest", fn := fun _ => fun
  | [d1, d2] => { results := [.lit (.bool false)], args := [d1, d2] }
  | _ => none }
def FitBestWrongFalsely : Prop := fitBestRow.holds Try.pinned (OpenSpec.ofChange fitBestWrong)

/- THE SECOND FORM. 'bulk': how many values and letters a reading holds, each counted each time it is reached (what is shared counts as often as it is met; a slice's spare places count too). A statement '..UptoSaid' is the law's where the arguments, and the package variables that the reading takes, are together of bulk at most 1048576: NARROWER than '..Said'. Prove '..Said' where nothing that the law and all that it calls make is longer than what came in: it says more and counts as full. Else prove '..UptoSaid'. A law counts once. -/
mutual
def uptoBulk {H : Type} : DataW H → Nat
  | .lit (.string bytes) => bytes.length + 1
  | .lit _ => 1
  | .nil => 1
  | .ptr d => uptoBulk d + 1
  | .slice elems spare => uptoBulkAll elems + uptoBulkAll spare + 1
  | .agg parts => uptoBulkAll parts + 1
  | .iface _ d => uptoBulk d + 1
  | .map entries => uptoBulkEntries entries + 1
  | .held _ => 1
def uptoBulkAll {H : Type} : List (DataW H) → Nat
  | [] => 0
  | d :: r => uptoBulk d + uptoBulkAll r
def uptoBulkEntries {H : Type} : List (Lit × DataW H) → Nat
  | [] => 0
  | x :: r => uptoBulkEntry x + uptoBulkEntries r
def uptoBulkEntry {H : Type} : Lit × DataW H → Nat
  | (.string bytes, d) => bytes.length + uptoBulk d + 1
  | (_, d) => uptoBulk d + 1
 end
def uptoSmall : (H : Type) → List (DataW H) → Bool := fun _ ds => decide (uptoBulkAll ds ≤ 1048576)
def OpenSpec.upto (s : _root_.Go.ChangeSpec) : _root_.Go.OpenSpec := { _root_.Go.OpenSpec.ofChange s with cond := some uptoSmall }

/-- 'coxswainlaw12.FitPlaces', WHERE WHAT IT READS IS OF BULK AT MOST 1048576: true; the input reads as it did. -/
def fitPlacesUptoRow : OpenClaim := { program := "ytkmgkdaedjdeeaa", sum := "12e808e696786d6b9e5f8290a217569a9d4c278d8856ad8cad5d5f061754a936", func := "coxswain/coxswainlaw12.FitPlaces", spec := "fitPlaces", unfollowed := true, recurses := true, apart := false, narrowed := true }
def FitPlacesUptoSaid : Prop := fitPlacesUptoRow.holds Try.pinned (OpenSpec.upto fitPlacesSpec)

/-- 'coxswainlaw12.FitLess', WHERE WHAT IT READS IS OF BULK AT MOST 1048576: true; the input reads as it did. -/
def fitLessUptoRow : OpenClaim := { program := "ytkmgkdaedjdeeaa", sum := "12e808e696786d6b9e5f8290a217569a9d4c278d8856ad8cad5d5f061754a936", func := "coxswain/coxswainlaw12.FitLess", spec := "fitLess", unfollowed := true, recurses := true, apart := false, narrowed := true }
def FitLessUptoSaid : Prop := fitLessUptoRow.holds Try.pinned (OpenSpec.upto fitLessSpec)

/-- 'coxswainlaw12.FitBest', WHERE WHAT IT READS IS OF BULK AT MOST 1048576: true; the input reads as it did. -/
def fitBestUptoRow : OpenClaim := { program := "ytkmgkdaedjdeeaa", sum := "12e808e696786d6b9e5f8290a217569a9d4c278d8856ad8cad5d5f061754a936", func := "coxswain/coxswainlaw12.FitBest", spec := "fitBest", unfollowed := true, recurses := true, apart := false, narrowed := true }
def FitBestUptoSaid : Prop := fitBestUptoRow.holds Try.pinned (OpenSpec.upto fitBestSpec)

end Rows
end Go.Proofs.Ytkmgkdaedjdeeaa
