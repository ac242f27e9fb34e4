/-
  No cell of these rows narrows 'for every input' (looked for: loops, veiled, ifaces, maps, wideKeys, modest, calm, conditions, laid).
  DERIVED. THE GIVEN ROWS OF THIS SEAT. 6 by the template 'for every input the law returns true; each argument reads behind the call as it read before'; 0 by the template 'total and deterministic' (their statements: YtgljfheohnlpfaaTotals.lean).
  GIVEN WITH THE SEED: the statements are not yours to turn. If you find one false, say at which input.
  Laid BY PROGRAM, IN A SANDBOX (cutbox-rows.mjs): the forced cells as the released guide's own fill.sh prints them over the translation 2294e15454121577… (all of the seat's roots in one cut). By AI agents, Wed Nov 11 2026. No macro, syntax, notation, axiom, sorry.
-/
import Derived.Test.YtgljfheohnlpfaaChecked
import GoSem.Claim
import GoSem.ClaimJoined
import GoSem.ClaimMapViews
import Derived.JoinedTies
import Derived.KernelRfl
namespace Go.Proofs.Ytgljfheohnlpfaa
/- THE CELL 'sum', in the pinned program and in every row, IS THE sha256 OF THE DUMP (.gsa) THAT YtgljfheohnlpfaaProg.lean LOADS. Nothing in Lean hashes anything: it is a label: what it is worth is what the hold of that sum in a sandbox is worth. -/
noncomputable def Try.pinned : Pinned := { name := "ytgljfheohnlpfaa", sum := "2294e1545412157716089b1d774ce4a379c1f2d42c4c1d45751ebbd253b0f97e", checked := Try.checked }
namespace Rows
def none {H : Type} : Left H := { results := [], args := [] }

/-- 'coxswainlaw08.RaftlogAlike': WHATEVER THE INPUT: true; the input reads as it did. -/
def raftlogAlikeSpec : ChangeSpec := { name := "raftlogAlike", fn := fun _ => fun
  | [d1, d2, d3] => { results := [.lit (.bool true)], args := [d1, d2, d3] }
  | _ => none }
def raftlogAlikeRow : OpenClaim := { program := "ytgljfheohnlpfaa", sum := "2294e1545412157716089b1d774ce4a379c1f2d42c4c1d45751ebbd253b0f97e", func := "coxswain/coxswainlaw08.RaftlogAlike", spec := "raftlogAlike", apart := false }
def RaftlogAlikeSaid : Prop := raftlogAlikeRow.holds Try.pinned (OpenSpec.ofChange raftlogAlikeSpec)

/-- ITS FALSE NEIGHBOUR: 'it returns false'. Refute it at one input. -/
def raftlogAlikeWrong : ChangeSpec := { name := "raftlogAlike", fn := fun _ => fun
  | [d1, d2, d3] => { results := [.lit (.bool false)], args := [d1, d2, d3] }
  | _ => none }
def RaftlogAlikeWrongFalsely : Prop := raftlogAlikeRow.holds Try.pinned (OpenSpec.ofChange raftlogAlikeWrong)

/-- 'coxswainlaw08.RaftlogPlays': WHATEVER THE INPUT: true; the input reads as it did. -/
def raftlogPlaysSpec : ChangeSpec := { name := "raftlogPlays", fn := fun _ => fun
  | [d1, d2, d3] => { results := [.lit (.bool true)], args := [d1, d2, d3] }
  | _ => none }
def raftlogPlaysRow : OpenClaim := { program := "ytgljfheohnlpfaa", sum := "2294e1545412157716089b1d774ce4a379c1f2d42c4c1d45751ebbd253b0f97e", func := "coxswain/coxswainlaw08.RaftlogPlays", spec := "raftlogPlays", apart := false }
def RaftlogPlaysSaid : Prop := raftlogPlaysRow.holds Try.pinned (OpenSpec.ofChange raftlogPlaysSpec)

/-- ITS FALSE NEIGHBOUR: 'it returns false'. Refute it at one input. -/
def raftlogPlaysWrong : ChangeSpec := { name := "raftlogPlays", fn := fun _ => fun
  | [d1, d2, d3] => { results := [.lit (.bool false)], args := [d1, d2, d3] }
  | _ => none }
def RaftlogPlaysWrongFalsely : Prop := raftlogPlaysRow.holds Try.pinned (OpenSpec.ofChange raftlogPlaysWrong)

/-- 'coxswainlaw08.RaftlogCompacts': WHATEVER THE INPUT: true; the input reads as it did. -/
def raftlogCompactsSpec : ChangeSpec := { name := "raftlogCompacts", fn := fun _ => fun
  | [d1, d2] => { results := [.lit (.bool true)], args := [d1, d2] }
  | _ => none }
def raftlogCompactsRow : OpenClaim := { program := "ytgljfheohnlpfaa", sum := "2294e1545412157716089b1d774ce4a379c1f2d42c4c1d45751ebbd253b0f97e", func := "coxswain/coxswainlaw08.RaftlogCompacts", spec := "raftlogCompacts", apart := false }
def RaftlogCompactsSaid : Prop := raftlogCompactsRow.holds Try.pinned (OpenSpec.ofChange raftlogCompactsSpec)

/-- ITS FALSE NEIGHBOUR: 'it returns false'. Refute it at one input. -/
def raftlogCompactsWrong : ChangeSpec := { name := "raftlogCompacts", fn := fun _ => fun
  | [d1, d2] => { results := [.lit (.bool false)], args := [d1, d2] }
  | _ => none }
def RaftlogCompactsWrongFalsely : Prop := raftlogCompactsRow.holds Try.pinned (OpenSpec.ofChange raftlogCompactsWrong)

/-- 'coxswainlaw08.RaftlogOwns': WHATEVER THE INPUT: true; the input reads as it did. -/
def raftlogOwnsSpec : ChangeSpec := { name := "raftlogOwns", fn := fun _ => fun
  | [d] => { results := [.lit (.bool true)], args := [d] }
  | _ => none }
def raftlogOwnsRow : OpenClaim := { program := "ytgljfheohnlpfaa", sum := "2294e1545412157716089b1d774ce4a379c1f2d42c4c1d45751ebbd253b0f97e", func := "coxswain/coxswainlaw08.RaftlogOwns", spec := "raftlogOwns", apart := false }
def RaftlogOwnsSaid : Prop := raftlogOwnsRow.holds Try.pinned (OpenSpec.ofChange raftlogOwnsSpec)

/-- ITS FALSE NEIGHBOUR: 'it returns false'. Refute it at one input. -/
def raftlogOwnsWrong : ChangeSpec := { name := "raftlogOwns", fn := fun _ => fun
  | [d] => { results := [.lit (.bool false)], args := [d] }
  | _ => none }
def RaftlogOwnsWrongFalsely : Prop := raftlogOwnsRow.holds Try.pinned (OpenSpec.ofChange raftlogOwnsWrong)

/-- 'coxswainlaw08.RaftlogRising': WHATEVER THE INPUT: true; the input reads as it did. -/
def raftlogRisingSpec : ChangeSpec := { name := "raftlogRising", fn := fun _ => fun
  | [d] => { results := [.lit (.bool true)], args := [d] }
  | _ => none }
def raftlogRisingRow : OpenClaim := { program := "ytgljfheohnlpfaa", sum := "2294e1545412157716089b1d774ce4a379c1f2d42c4c1d45751ebbd253b0f97e", func := "coxswain/coxswainlaw08.RaftlogRising", spec := "raftlogRising", apart := false }
def RaftlogRisingSaid : Prop := raftlogRisingRow.holds Try.pinned (OpenSpec.ofChange raftlogRisingSpec)

/-- ITS FALSE NEIGHBOUR: 'it returns false'. Refute it at one input. -/
def raftlogRisingWrong : ChangeSpec := { name := "raftlogRising", fn := fun _ => fun
  | [d] => { results := [.lit (.bool false)], args := [d] }
  | _ => none }
def RaftlogRisingWrongFalsely : Prop := raftlogRisingRow.holds Try.pinned (OpenSpec.ofChange raftlogRisingWrong)

/-- 'coxswainlaw08.RaftlogPieces': WHATEVER THE INPUT: true; the input reads as it did. -/
def raftlogPiecesSpec : ChangeSpec := { name := "raftlogPieces", fn := fun _ => fun
  | [d1, d2] => { results := [.lit (.bool true)], args := [d1, d2] }
  | _ => none }
def raftlogPiecesRow : OpenClaim := { program := "ytgljfheohnlpfaa", sum := "2294e1545412157716089b1d774ce4a379c1f2d42c4c1d45751ebbd253b0f97e", func := "coxswain/coxswainlaw08.RaftlogPieces", spec := "raftlogPieces", apart := false }
def RaftlogPiecesSaid : Prop := raftlogPiecesRow.holds Try.pinned (OpenSpec.ofChange raftlogPiecesSpec)

/-- ITS FALSE NEIGHBOUR: 'it returns false'. Refute it at one input. -/
def raftlogPiecesWrong : ChangeSpec := { name := "raftlogPieces", fn := fun _ => fun
  | [d1, d2] => { results := [.lit (.bool false)], args := [d1, d2] }
  | _ => none }
def RaftlogPiecesWrongFalsely : Prop := raftlogPiecesRow.holds Try.pinned (OpenSpec.ofChange raftlogPiecesWrong)

/- THE SECOND FORM. 'bulk': how many values and letters a reading holds, each counted each time it is reached (what is shared counts as often as it is met; a slice's spare places count too). A statement '..UptoSaid' is the law's where the arguments, and the package variables that the reading takes, are together of bulk at most 1048576: NARROWER than '..Said'. Prove '..Said' where nothing that the law and all that it calls make is longer than what came in: it says more and counts as full. Else prove '..UptoSaid'. A law counts once. -/
mutual
def uptoBulk {H : Type} : DataW H → Nat
  | .lit (.string bytes) => bytes.length + 1
  | .lit _ => 1
  | .nil => 1
  | .ptr d => uptoBulk d + 1
  | .slice elems spare => uptoBulkAll elems + uptoBulkAll spare + 1
  | .agg parts => uptoBulkAll parts + 1
  | .iface _ d => uptoBulk d + 1
  | .map entries => uptoBulkEntries entries + 1
  | .held _ => 1
def uptoBulkAll {H : Type} : List (DataW H) → Nat
  | [] => 0
  | d :: r => uptoBulk d + uptoBulkAll r
def uptoBulkEntries {H : Type} : List (Lit × DataW H) → Nat
  | [] => 0
  | x :: r => uptoBulkEntry x + uptoBulkEntries r
def uptoBulkEntry {H : Type} : Lit × DataW H → Nat
  | (.string bytes, d) => bytes.length + uptoBulk d + 1
  | (_, d) => uptoBulk d + 1
 end
def uptoSmall : (H : Type) → List (DataW H) → Bool := fun _ ds => decide (uptoBulkAll ds ≤ 1048576)
def OpenSpec.upto (s : _root_.Go.ChangeSpec) : _root_.Go.OpenSpec := { _root_.Go.OpenSpec.ofChange s with cond := some uptoSmall }

/-- 'coxswainlaw08.RaftlogAlike', WHERE WHAT IT READS IS OF BULK AT MOST 1048576: true; the input reads as it did. -/
def raftlogAlikeUptoRow : OpenClaim := { program := "ytgljfheohnlpfaa", sum := "2294e1545412157716089b1d774ce4a379c1f2d42c4c1d45751ebbd253b0f97e", func := "coxswain/coxswainlaw08.RaftlogAlike", spec := "raftlogAlike", apart := false, narrowed := true }
def RaftlogAlikeUptoSaid : Prop := raftlogAlikeUptoRow.holds Try.pinned (OpenSpec.upto raftlogAlikeSpec)

/-- 'coxswainlaw08.RaftlogPlays', WHERE WHAT IT READS IS OF BULK AT MOST 1048576: true; the input reads as it did. -/
def raftlogPlaysUptoRow : OpenClaim := { program := "ytgljfheohnlpfaa", sum := "2294e1545412157716089b1d774ce4a379c1f2d42c4c1d45751ebbd253b0f97e", func := "coxswain/coxswainlaw08.RaftlogPlays", spec := "raftlogPlays", apart := false, narrowed := true }
def RaftlogPlaysUptoSaid : Prop := raftlogPlaysUptoRow.holds Try.pinned (OpenSpec.upto raftlogPlaysSpec)

/-- 'coxswainlaw08.RaftlogCompacts', WHERE WHAT IT READS IS OF BULK AT MOST 1048576: true; the input reads as it did. -/
def raftlogCompactsUptoRow : OpenClaim := { program := "ytgljfheohnlpfaa", sum := "2294e1545412157716089b1d774ce4a379c1f2d42c4c1d45751ebbd253b0f97e", func := "coxswain/coxswainlaw08.RaftlogCompacts", spec := "raftlogCompacts", apart := false, narrowed := true }
def RaftlogCompactsUptoSaid : Prop := raftlogCompactsUptoRow.holds Try.pinned (OpenSpec.upto raftlogCompactsSpec)

/-- 'coxswainlaw08.RaftlogOwns', WHERE WHAT IT READS IS OF BULK AT MOST 1048576: true; the input reads as it did. -/
def raftlogOwnsUptoRow : OpenClaim := { program := "ytgljfheohnlpfaa", sum := "2294e1545412157716089b1d774ce4a379c1f2d42c4c1d45751ebbd253b0f97e", func := "coxswain/coxswainlaw08.RaftlogOwns", spec := "raftlogOwns", apart := false, narrowed := true }
def RaftlogOwnsUptoSaid : Prop := raftlogOwnsUptoRow.holds Try.pinned (OpenSpec.upto raftlogOwnsSpec)

/-- 'coxswainlaw08.RaftlogRising', WHERE WHAT IT READS IS OF BULK AT MOST 1048576: true; the input reads as it did. -/
def raftlogRisingUptoRow : OpenClaim := { program := "ytgljfheohnlpfaa", sum := "2294e1545412157716089b1d774ce4a379c1f2d42c4c1d45751ebbd253b0f97e", func := "coxswain/coxswainlaw08.RaftlogRising", spec := "raftlogRising", apart := false, narrowed := true }
def RaftlogRisingUptoSaid : Prop := raftlogRisingUptoRow.holds Try.pinned (OpenSpec.upto raftlogRisingSpec)

/-- 'coxswainlaw08.RaftlogPieces', WHERE WHAT IT READS IS OF BULK AT MOST 1048576: true; the input reads as it did. -/
def raftlogPiecesUptoRow : OpenClaim := { program := "ytgljfheohnlpfaa", sum := "2294e1545412157716089b1d774ce4a379c1f2d42c4c1d45751ebbd253b0f97e", func := "coxswain/coxswainlaw08.RaftlogPieces", spec := "raftlogPieces", apart := false, narrowed := true }
def RaftlogPiecesUptoSaid : Prop := raftlogPiecesUptoRow.holds Try.pinned (OpenSpec.upto raftlogPiecesSpec)

end Rows
end Go.Proofs.Ytgljfheohnlpfaa
