/-
  No cell of these rows narrows 'for every input' (looked for: loops, veiled, ifaces, maps, wideKeys, modest, calm, conditions, laid).
  DERIVED. THE GIVEN ROWS OF THIS SEAT. 5 by the template 'for every input the law returns true; each argument reads behind the call as it read before'; 0 by the template 'total and deterministic' (their statements: YtippnelhkdjknaaTotals.lean).
  GIVEN WITH THE SEED: the statements are not yours to turn. If you find one false, say at which input.
  Laid BY PROGRAM, IN A SANDBOX (cutbox-rows.mjs): the forced cells as the released guide's own fill.sh prints them over the translation 2c3c6f0cf8b7fd5b… (all of the seat's roots in one cut). By AI agents, Wed Nov 11 2026. No macro, syntax, notation, axiom, sorry.
-/
import Derived.Test.YtippnelhkdjknaaChecked
import GoSem.Claim
import GoSem.ClaimJoined
import GoSem.ClaimMapViews
import Derived.JoinedTies
import Derived.KernelRfl
namespace Go.Proofs.Ytippnelhkdjknaa
/- THE CELL 'sum', in the pinned program and in every row, IS THE sha256 OF THE DUMP (.gsa) THAT YtippnelhkdjknaaProg.lean LOADS. Nothing in Lean hashes anything: it is a label: what it is worth is what the hold of that sum in a sandbox is worth. -/
noncomputable def Try.pinned : Pinned := { name := "ytippnelhkdjknaa", sum := "2c3c6f0cf8b7fd5b2938c388c45ca535ea17ed99e49386d63ed8c6d428312a13", checked := Try.checked }
namespace Rows
def none {H : Type} : Left H := { results := [], args := [] }

/-- 'coxswainlaw13.DiffHeld': WHATEVER THE INPUT: true; the input reads as it did. -/
def diffHeldSpec : ChangeSpec := { name := "diffHeld", fn := fun _ => fun
  | [d1, d2] => { results := [.lit (.bool true)], args := [d1, d2] }
  | _ => none }
def diffHeldRow : OpenClaim := { program := "ytippnelhkdjknaa", sum := "2c3c6f0cf8b7fd5b2938c388c45ca535ea17ed99e49386d63ed8c6d428312a13", func := "coxswain/coxswainlaw13.DiffHeld", spec := "diffHeld", unfollowed := true, recurses := true, plainKeys := false, apart := false }
def DiffHeldSaid : Prop := diffHeldRow.holds Try.pinned (OpenSpec.ofChange diffHeldSpec)

/-- ITS FALSE NEIGHBOUR: 'it returns false'. Refute it at one input. -/
def diffHeldWrong : ChangeSpec := { name := "diffHeld", fn := fun _ => fun
  | [d1, d2] => { results := [.lit (.bool false)], args := [d1, d2] }
  | _ => none }
def DiffHeldWrongFalsely : Prop := diffHeldRow.holds Try.pinned (OpenSpec.ofChange diffHeldWrong)

/-- 'coxswainlaw13.DiffRolls': WHATEVER THE INPUT: true; the input reads as it did. -/
def diffRollsSpec : ChangeSpec := { name := "diffRolls", fn := fun _ => fun
  | [d1, d2] => { results := [.lit (.bool true)], args := [d1, d2] }
  | _ => none }
def diffRollsRow : OpenClaim := { program := "ytippnelhkdjknaa", sum := "2c3c6f0cf8b7fd5b2938c388c45ca535ea17ed99e49386d63ed8c6d428312a13", func := "coxswain/coxswainlaw13.DiffRolls", spec := "diffRolls", unfollowed := true, recurses := true, plainKeys := false, apart := false }
def DiffRollsSaid : Prop := diffRollsRow.holds Try.pinned (OpenSpec.ofChange diffRollsSpec)

/-- ITS FALSE NEIGHBOUR: 'it returns false'. Refute it at one input. -/
def diffRollsWrong : ChangeSpec := { name := "diffRolls", fn := fun _ => fun
  | [d1, d2] => { results := [.lit (.bool false)], args := [d1, d2] }
  | _ => none }
def DiffRollsWrongFalsely : Prop := diffRollsRow.holds Try.pinned (OpenSpec.ofChange diffRollsWrong)

/-- 'coxswainlaw13.DiffQuiet': WHATEVER THE INPUT: true; the input reads as it did. -/
def diffQuietSpec : ChangeSpec := { name := "diffQuiet", fn := fun _ => fun
  | [d1, d2] => { results := [.lit (.bool true)], args := [d1, d2] }
  | _ => none }
def diffQuietRow : OpenClaim := { program := "ytippnelhkdjknaa", sum := "2c3c6f0cf8b7fd5b2938c388c45ca535ea17ed99e49386d63ed8c6d428312a13", func := "coxswain/coxswainlaw13.DiffQuiet", spec := "diffQuiet", unfollowed := true, recurses := true, plainKeys := false, apart := false }
def DiffQuietSaid : Prop := diffQuietRow.holds Try.pinned (OpenSpec.ofChange diffQuietSpec)

/-- ITS FALSE NEIGHBOUR: 'it returns false'. Refute it at one input. -/
def diffQuietWrong : ChangeSpec := { name := "diffQuiet", fn := fun _ => fun
  | [d1, d2] => { results := [.lit (.bool false)], args := [d1, d2] }
  | _ => none }
def DiffQuietWrongFalsely : Prop := diffQuietRow.holds Try.pinned (OpenSpec.ofChange diffQuietWrong)

/-- 'coxswainlaw13.DiffStops': WHATEVER THE INPUT: true; the input reads as it did. -/
def diffStopsSpec : ChangeSpec := { name := "diffStops", fn := fun _ => fun
  | [d1, d2] => { results := [.lit (.bool true)], args := [d1, d2] }
  | _ => none }
def diffStopsRow : OpenClaim := { program := "ytippnelhkdjknaa", sum := "2c3c6f0cf8b7fd5b2938c388c45ca535ea17ed99e49386d63ed8c6d428312a13", func := "coxswain/coxswainlaw13.DiffStops", spec := "diffStops", unfollowed := true, recurses := true, plainKeys := false, apart := false }
def DiffStopsSaid : Prop := diffStopsRow.holds Try.pinned (OpenSpec.ofChange diffStopsSpec)

/-- ITS FALSE NEIGHBOUR: 'it returns false'. Refute it at one input. -/
def diffStopsWrong : ChangeSpec := { name := "diffStops", fn := fun _ => fun
  | [d1, d2] => { results := [.lit (.bool false)], args := [d1, d2] }
  | _ => none }
def DiffStopsWrongFalsely : Prop := diffStopsRow.holds Try.pinned (OpenSpec.ofChange diffStopsWrong)

/-- 'coxswainlaw13.DiffDrains': WHATEVER THE INPUT: true; the input reads as it did. -/
def diffDrainsSpec : ChangeSpec := { name := "diffDrains", fn := fun _ => fun
  | [d1, d2, d3] => { results := [.lit (.bool true)], args := [d1, d2, d3] }
  | _ => none }
def diffDrainsRow : OpenClaim := { program := "ytippnelhkdjknaa", sum := "2c3c6f0cf8b7fd5b2938c388c45ca535ea17ed99e49386d63ed8c6d428312a13", func := "coxswain/coxswainlaw13.DiffDrains", spec := "diffDrains", unfollowed := true, recurses := true, plainKeys := false, apart := false }
def DiffDrainsSaid : Prop := diffDrainsRow.holds Try.pinned (OpenSpec.ofChange diffDrainsSpec)

/-- ITS FALSE NEIGHBOUR: 'it returns false'. Refute it at one input. -/
def diffDrainsWrong : ChangeSpec := { name := "diffDrains", fn := fun _ => fun
  | [d1, d2, d3] => { results := [.lit (.bool false)], args := [d1, d2, d3] }
  | _ => none }
def DiffDrainsWrongFalsely : Prop := diffDrainsRow.holds Try.pinned (OpenSpec.ofChange diffDrainsWrong)

/- THE SECOND FORM. 'bulk': how many values and letters a reading holds, each counted each time it is reached (what is shared counts as often as it is met; a slice's spare places count too). A statement '..UptoSaid' is the law's where the arguments, and the package variables that the reading takes, are together of bulk at most 1048576: NARROWER than '..Said'. Prove '..Said' where nothing that the law and all that it calls make is longer than what came in: it says more and counts as full. Else prove '..UptoSaid'. A law counts once. -/
mutual
def uptoBulk {H : Type} : DataW H → Nat
  | .lit (.string bytes) => bytes.length + 1
  | .lit _ => 1
  | .nil => 1
  | .ptr d => uptoBulk d + 1
  | .slice elems spare => uptoBulkAll elems + uptoBulkAll spare + 1
  | .agg parts => uptoBulkAll parts + 1
  | .iface _ d => uptoBulk d + 1
  | .map entries => uptoBulkEntries entries + 1
  | .held _ => 1
def uptoBulkAll {H : Type} : List (DataW H) → Nat
  | [] => 0
  | d :: r => uptoBulk d + uptoBulkAll r
def uptoBulkEntries {H : Type} : List (Lit × DataW H) → Nat
  | [] => 0
  | x :: r => uptoBulkEntry x + uptoBulkEntries r
def uptoBulkEntry {H : Type} : Lit × DataW H → Nat
  | (.string bytes, d) => bytes.length + uptoBulk d + 1
  | (_, d) => uptoBulk d + 1
 end
def uptoSmall : (H : Type) → List (DataW H) → Bool := fun _ ds => decide (uptoBulkAll ds ≤ 1048576)
def OpenSpec.upto (s : _root_.Go.ChangeSpec) : _root_.Go.OpenSpec := { _root_.Go.OpenSpec.ofChange s with cond := some uptoSmall }

/-- 'coxswainlaw13.DiffHeld', WHERE WHAT IT READS IS OF BULK AT MOST 1048576: true; the input reads as it did. -/
def diffHeldUptoRow : OpenClaim := { program := "ytippnelhkdjknaa", sum := "2c3c6f0cf8b7fd5b2938c388c45ca535ea17ed99e49386d63ed8c6d428312a13", func := "coxswain/coxswainlaw13.DiffHeld", spec := "diffHeld", unfollowed := true, recurses := true, plainKeys := false, apart := false, narrowed := true }
def DiffHeldUptoSaid : Prop := diffHeldUptoRow.holds Try.pinned (OpenSpec.upto diffHeldSpec)

/-- 'coxswainlaw13.DiffRolls', WHERE WHAT IT READS IS OF BULK AT MOST 1048576: true; the input reads as it did. -/
def diffRollsUptoRow : OpenClaim := { program := "ytippnelhkdjknaa", sum := "2c3c6f0cf8b7fd5b2938c388c45ca535ea17ed99e49386d63ed8c6d428312a13", func := "coxswain/coxswainlaw13.DiffRolls", spec := "diffRolls", unfollowed := true, recurses := true, plainKeys := false, apart := false, narrowed := true }
def DiffRollsUptoSaid : Prop := diffRollsUptoRow.holds Try.pinned (OpenSpec.upto diffRollsSpec)

/-- 'coxswainlaw13.DiffQuiet', WHERE WHAT IT READS IS OF BULK AT MOST 1048576: true; the input reads as it did. -/
def diffQuietUptoRow : OpenClaim := { program := "ytippnelhkdjknaa", sum := "2c3c6f0cf8b7fd5b2938c388c45ca535ea17ed99e49386d63ed8c6d428312a13", func := "coxswain/coxswainlaw13.DiffQuiet", spec := "diffQuiet", unfollowed := true, recurses := true, plainKeys := false, apart := false, narrowed := true }
def DiffQuietUptoSaid : Prop := diffQuietUptoRow.holds Try.pinned (OpenSpec.upto diffQuietSpec)

/-- 'coxswainlaw13.DiffStops', WHERE WHAT IT READS IS OF BULK AT MOST 1048576: true; the input reads as it did. -/
def diffStopsUptoRow : OpenClaim := { program := "ytippnelhkdjknaa", sum := "2c3c6f0cf8b7fd5b2938c388c45ca535ea17ed99e49386d63ed8c6d428312a13", func := "coxswain/coxswainlaw13.DiffStops", spec := "diffStops", unfollowed := true, recurses := true, plainKeys := false, apart := false, narrowed := true }
def DiffStopsUptoSaid : Prop := diffStopsUptoRow.holds Try.pinned (OpenSpec.upto diffStopsSpec)

/-- 'coxswainlaw13.DiffDrains', WHERE WHAT IT READS IS OF BULK AT MOST 1048576: true; the input reads as it did. -/
def diffDrainsUptoRow : OpenClaim := { program := "ytippnelhkdjknaa", sum := "2c3c6f0cf8b7fd5b2938c388c45ca535ea17ed99e49386d63ed8c6d428312a13", func := "coxswain/coxswainlaw13.DiffDrains", spec := "diffDrains", unfollowed := true, recurses := true, plainKeys := false, apart := false, narrowed := true }
def DiffDrainsUptoSaid : Prop := diffDrainsUptoRow.holds Try.pinned (OpenSpec.upto diffDrainsSpec)

end Rows
end Go.Proofs.Ytippnelhkdjknaa
