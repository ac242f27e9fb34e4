/-
  No cell of these rows narrows 'for every input' (looked for: loops, veiled, ifaces, maps, wideKeys, modest, calm, conditions, laid).
  DERIVED. THE GIVEN ROWS OF THIS SEAT. 5 by the template 'for every input the law returns true; each argument reads behind the call as it read before'; 0 by the template 'total and deterministic' (their statements: YtpddkmdcmkoofaaTotals.lean).
  GIVEN WITH THE SEED: the statements are not yours to turn. If you find one false, say at which input.
  Laid BY PROGRAM, IN A SANDBOX (cutbox-rows.mjs): the forced cells as the released guide's own fill.sh prints them over the translation 41bd86e547ebb9cd… (all of the seat's roots in one cut). By AI agents, Wed Nov 11 2026. No macro, syntax, notation, axiom, sorry.
-/
import Derived.Test.YtpddkmdcmkoofaaChecked
import GoSem.Claim
import GoSem.ClaimJoined
import GoSem.ClaimMapViews
import Derived.JoinedTies
import Derived.KernelRfl
namespace Go.Proofs.Ytpddkmdcmkoofaa
/- THE CELL 'sum', in the pinned program and in every row, IS THE sha256 OF THE DUMP (.gsa) THAT YtpddkmdcmkoofaaProg.lean LOADS. Nothing in Lean hashes anything: it is a label: what it is worth is what the hold of that sum in a sandbox is worth. -/
noncomputable def Try.pinned : Pinned := { name := "ytpddkmdcmkoofaa", sum := "41bd86e547ebb9cdec53d48e0ec56fc9d8fed84ee49f11247718616d9b3b2041", checked := Try.checked }
namespace Rows
def none {H : Type} : Left H := { results := [], args := [] }

/-- 'coxswainlaw06.SpecSum': WHATEVER THE INPUT: true; the input reads as it did. -/
def specSumSpec : ChangeSpec := { name := "specSum", fn := fun _ => fun
  | [d] => { results := [.lit (.bool true)], args := [d] }
  | _ => none }
def specSumRow : OpenClaim := { program := "ytpddkmdcmkoofaa", sum := "41bd86e547ebb9cdec53d48e0ec56fc9d8fed84ee49f11247718616d9b3b2041", func := "coxswain/coxswainlaw06.SpecSum", spec := "specSum", unfollowed := true, recurses := true, apart := false }
def SpecSumSaid : Prop := specSumRow.holds Try.pinned (OpenSpec.ofChange specSumSpec)

/-- ITS FALSE NEIGHBOUR: 'it returns false'. Refute it at one input. -/
def specSumWrong : ChangeSpec := { name := "specSum", fn := fun _ => fun
  | [d] => { results := [.lit (.bool false)], args := [d] }
  | _ => none }
def SpecSumWrongFalsely : Prop := specSumRow.holds Try.pinned (OpenSpec.ofChange specSumWrong)

/-- 'coxswainlaw06.SpecTypes': WHATEVER THE INPUT: true; the input reads as it did. -/
def specTypesSpec : ChangeSpec := { name := "specTypes", fn := fun _ => fun
  | [d] => { results := [.lit (.bool true)], args := [d] }
  | _ => none }
def specTypesRow : OpenClaim := { program := "ytpddkmdcmkoofaa", sum := "41bd86e547ebb9cdec53d48e0ec56fc9d8fed84ee49f11247718616d9b3b2041", func := "coxswain/coxswainlaw06.SpecTypes", spec := "specTypes", unfollowed := true, recurses := true, apart := false }
def SpecTypesSaid : Prop := specTypesRow.holds Try.pinned (OpenSpec.ofChange specTypesSpec)

/-- ITS FALSE NEIGHBOUR: 'it returns false'. Refute it at one input. -/
def specTypesWrong : ChangeSpec := { name := "specTypes", fn := fun _ => fun
  | [d] => { results := [.lit (.bool false)], args := [d] }
  | _ => none }
def SpecTypesWrongFalsely : Prop := specTypesRow.holds Try.pinned (OpenSpec.ofChange specTypesWrong)

/-- 'coxswainlaw06.SpecSums': WHATEVER THE INPUT: true; the input reads as it did. -/
def specSumsSpec : ChangeSpec := { name := "specSums", fn := fun _ => fun
  | [d1, d2, d3] => { results := [.lit (.bool true)], args := [d1, d2, d3] }
  | _ => none }
def specSumsRow : OpenClaim := { program := "ytpddkmdcmkoofaa", sum := "41bd86e547ebb9cdec53d48e0ec56fc9d8fed84ee49f11247718616d9b3b2041", func := "coxswain/coxswainlaw06.SpecSums", spec := "specSums", unfollowed := true, recurses := true, apart := false }
def SpecSumsSaid : Prop := specSumsRow.holds Try.pinned (OpenSpec.ofChange specSumsSpec)

/-- ITS FALSE NEIGHBOUR: 'it returns false'. Refute it at one input. -/
def specSumsWrong : ChangeSpec := { name := "specSums", fn := fun _ => fun
  | [d1, d2, d3] => { results := [.lit (.bool false)], args := [d1, d2, d3] }
  | _ => none }
def SpecSumsWrongFalsely : Prop := specSumsRow.holds Try.pinned (OpenSpec.ofChange specSumsWrong)

/-- 'coxswainlaw06.SpecOrder': WHATEVER THE INPUT: true; the input reads as it did. -/
def specOrderSpec : ChangeSpec := { name := "specOrder", fn := fun _ => fun
  | [d1, d2] => { results := [.lit (.bool true)], args := [d1, d2] }
  | _ => none }
def specOrderRow : OpenClaim := { program := "ytpddkmdcmkoofaa", sum := "41bd86e547ebb9cdec53d48e0ec56fc9d8fed84ee49f11247718616d9b3b2041", func := "coxswain/coxswainlaw06.SpecOrder", spec := "specOrder", unfollowed := true, recurses := true, apart := false }
def SpecOrderSaid : Prop := specOrderRow.holds Try.pinned (OpenSpec.ofChange specOrderSpec)

/-- ITS FALSE NEIGHBOUR: 'it returns false'. Refute it at one input. -/
def specOrderWrong : ChangeSpec := { name := "specOrder", fn := fun _ => fun
  | [d1, d2] => { results := [.lit (.bool false)], args := [d1, d2] }
  | _ => none }
def SpecOrderWrongFalsely : Prop := specOrderRow.holds Try.pinned (OpenSpec.ofChange specOrderWrong)

/-- 'coxswainlaw06.SpecMay': WHATEVER THE INPUT: true; the input reads as it did. -/
def specMaySpec : ChangeSpec := { name := "specMay", fn := fun _ => fun
  | [d1, d2] => { results := [.lit (.bool true)], args := [d1, d2] }
  | _ => none }
def specMayRow : OpenClaim := { program := "ytpddkmdcmkoofaa", sum := "41bd86e547ebb9cdec53d48e0ec56fc9d8fed84ee49f11247718616d9b3b2041", func := "coxswain/coxswainlaw06.SpecMay", spec := "specMay", unfollowed := true, recurses := true, apart := false }
def SpecMaySaid : Prop := specMayRow.holds Try.pinned (OpenSpec.ofChange specMaySpec)

/-- ITS FALSE NEIGHBOUR: 'it returns false'. Refute it at one input. -/
def specMayWrong : ChangeSpec := { name := "specMay", fn := fun _ => fun
  | [d1, d2] => { results := [.lit (.bool false)], args := [d1, d2] }
  | _ => none }
def SpecMayWrongFalsely : Prop := specMayRow.holds Try.pinned (OpenSpec.ofChange specMayWrong)

/- THE SECOND FORM. 'bulk': how many values and letters a reading holds, each counted each time it is reached (what is shared counts as often as it is met; a slice's spare places count too). A statement '..UptoSaid' is the law's where the arguments, and the package variables that the reading takes, are together of bulk at most 1048576: NARROWER than '..Said'. Prove '..Said' where nothing that the law and all that it calls make is longer than what came in: it says more and counts as full. Else prove '..UptoSaid'. A law counts once. -/
mutual
def uptoBulk {H : Type} : DataW H → Nat
  | .lit (.string bytes) => bytes.length + 1
  | .lit _ => 1
  | .nil => 1
  | .ptr d => uptoBulk d + 1
  | .slice elems spare => uptoBulkAll elems + uptoBulkAll spare + 1
  | .agg parts => uptoBulkAll parts + 1
  | .iface _ d => uptoBulk d + 1
  | .map entries => uptoBulkEntries entries + 1
  | .held _ => 1
def uptoBulkAll {H : Type} : List (DataW H) → Nat
  | [] => 0
  | d :: r => uptoBulk d + uptoBulkAll r
def uptoBulkEntries {H : Type} : List (Lit × DataW H) → Nat
  | [] => 0
  | x :: r => uptoBulkEntry x + uptoBulkEntries r
def uptoBulkEntry {H : Type} : Lit × DataW H → Nat
  | (.string bytes, d) => bytes.length + uptoBulk d + 1
  | (_, d) => uptoBulk d + 1
 end
def uptoSmall : (H : Type) → List (DataW H) → Bool := fun _ ds => decide (uptoBulkAll ds ≤ 1048576)
def OpenSpec.upto (s : _root_.Go.ChangeSpec) : _root_.Go.OpenSpec := { _root_.Go.OpenSpec.ofChange s with cond := some uptoSmall }

/-- 'coxswainlaw06.SpecSum', WHERE WHAT IT READS IS OF BULK AT MOST 1048576: true; the input reads as it did. -/
def specSumUptoRow : OpenClaim := { program := "ytpddkmdcmkoofaa", sum := "41bd86e547ebb9cdec53d48e0ec56fc9d8fed84ee49f11247718616d9b3b2041", func := "coxswain/coxswainlaw06.SpecSum", spec := "specSum", unfollowed := true, recurses := true, apart := false, narrowed := true }
def SpecSumUptoSaid : Prop := specSumUptoRow.holds Try.pinned (OpenSpec.upto specSumSpec)

/-- 'coxswainlaw06.SpecTypes', WHERE WHAT IT READS IS OF BULK AT MOST 1048576: true; the input reads as it did. -/
def specTypesUptoRow : OpenClaim := { program := "ytpddkmdcmkoofaa", sum := "41bd86e547ebb9cdec53d48e0ec56fc9d8fed84ee49f11247718616d9b3b2041", func := "coxswain/coxswainlaw06.SpecTypes", spec := "specTypes", unfollowed := true, recurses := true, apart := false, narrowed := true }
def SpecTypesUptoSaid : Prop := specTypesUptoRow.holds Try.pinned (OpenSpec.upto specTypesSpec)

/-- 'coxswainlaw06.SpecSums', WHERE WHAT IT READS IS OF BULK AT MOST 1048576: true; the input reads as it did. -/
def specSumsUptoRow : OpenClaim := { program := "ytpddkmdcmkoofaa", sum := "41bd86e547ebb9cdec53d48e0ec56fc9d8fed84ee49f11247718616d9b3b2041", func := "coxswain/coxswainlaw06.SpecSums", spec := "specSums", unfollowed := true, recurses := true, apart := false, narrowed := true }
def SpecSumsUptoSaid : Prop := specSumsUptoRow.holds Try.pinned (OpenSpec.upto specSumsSpec)

/-- 'coxswainlaw06.SpecOrder', WHERE WHAT IT READS IS OF BULK AT MOST 1048576: true; the input reads as it did. -/
def specOrderUptoRow : OpenClaim := { program := "ytpddkmdcmkoofaa", sum := "41bd86e547ebb9cdec53d48e0ec56fc9d8fed84ee49f11247718616d9b3b2041", func := "coxswain/coxswainlaw06.SpecOrder", spec := "specOrder", unfollowed := true, recurses := true, apart := false, narrowed := true }
def SpecOrderUptoSaid : Prop := specOrderUptoRow.holds Try.pinned (OpenSpec.upto specOrderSpec)

/-- 'coxswainlaw06.SpecMay', WHERE WHAT IT READS IS OF BULK AT MOST 1048576: true; the input reads as it did. -/
def specMayUptoRow : OpenClaim := { program := "ytpddkmdcmkoofaa", sum := "41bd86e547ebb9cdec53d48e0ec56fc9d8fed84ee49f11247718616d9b3b2041", func := "coxswain/coxswainlaw06.SpecMay", spec := "specMay", unfollowed := true, recurses := true, apart := false, narrowed := true }
def SpecMayUptoSaid : Prop := specMayUptoRow.holds Try.pinned (OpenSpec.upto specMaySpec)

end Rows
end Go.Proofs.Ytpddkmdcmkoofaa
