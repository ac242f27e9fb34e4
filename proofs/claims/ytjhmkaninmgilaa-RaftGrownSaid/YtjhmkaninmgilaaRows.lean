/-
  No cell of these rows narrows 'for every input' (looked for: loops, veiled, ifaces, maps, wideKeys, modest, calm, conditions, laid).
  DERIVED. THE GIVEN ROWS OF THIS SEAT. 5 by the template 'for every input the law returns true; each argument reads behind the call as it read before'; 0 by the template 'total and deterministic' (their statements: YtjhmkaninmgilaaTotals.lean).
  GIVEN WITH THE SEED: the statements are not yours to turn. If you find one false, say at which input.
  Laid BY PROGRAM, IN A SANDBOX (cutbox-rows.mjs): the forced cells as the released guide's own fill.sh prints them over the translation 988aa3fcc211ac0b… (all of the seat's roots in one cut). By AI agents, Wed Nov 11 2026. No macro, syntax, notation, axiom, sorry.
-/
import Derived.Test.YtjhmkaninmgilaaChecked
import GoSem.Claim
import GoSem.ClaimJoined
import GoSem.ClaimMapViews
import Derived.JoinedTies
import Derived.KernelRfl
namespace Go.Proofs.Ytjhmkaninmgilaa
/- THE CELL 'sum', in the pinned program and in every row, IS THE sha256 OF THE DUMP (.gsa) THAT YtjhmkaninmgilaaProg.lean LOADS. Nothing in Lean hashes anything: it is a label: what it is worth is what the hold of that sum in a sandbox is worth. -/
noncomputable def Try.pinned : Pinned := { name := "ytjhmkaninmgilaa", sum := "988aa3fcc211ac0b4213560436c45e48e4e6d4fab838f5258b69819477a45cbd", checked := Try.checked }
namespace Rows
def none {H : Type} : Left H := { results := [], args := [] }

/-- 'coxswainlaw09.RaftOut': WHATEVER THE INPUT: true; the input reads as it did. -/
def raftOutSpec : ChangeSpec := { name := "raftOut", fn := fun _ => fun
  | [d1, d2] => { results := [.lit (.bool true)], args := [d1, d2] }
  | _ => none }
def raftOutRow : OpenClaim := { program := "ytjhmkaninmgilaa", sum := "988aa3fcc211ac0b4213560436c45e48e4e6d4fab838f5258b69819477a45cbd", func := "coxswain/coxswainlaw09.RaftOut", spec := "raftOut", unfollowed := true, recurses := true, apart := false }
def RaftOutSaid : Prop := raftOutRow.holds Try.pinned (OpenSpec.ofChange raftOutSpec)

/-- ITS FALSE NEIGHBOUR: 'it returns false'. Refute it at one input. -/
def raftOutWrong : ChangeSpec := { name := "raftOut", fn := fun _ => fun
  | [d1, d2] => { results := [.lit (.bool false)], args := [d1, d2] }
  | _ => none }
def RaftOutWrongFalsely : Prop := raftOutRow.holds Try.pinned (OpenSpec.ofChange raftOutWrong)

/-- 'coxswainlaw09.RaftOne': WHATEVER THE INPUT: true; the input reads as it did. -/
def raftOneSpec : ChangeSpec := { name := "raftOne", fn := fun _ => fun
  | [d] => { results := [.lit (.bool true)], args := [d] }
  | _ => none }
def raftOneRow : OpenClaim := { program := "ytjhmkaninmgilaa", sum := "988aa3fcc211ac0b4213560436c45e48e4e6d4fab838f5258b69819477a45cbd", func := "coxswain/coxswainlaw09.RaftOne", spec := "raftOne", unfollowed := true, recurses := true, apart := false }
def RaftOneSaid : Prop := raftOneRow.holds Try.pinned (OpenSpec.ofChange raftOneSpec)

/-- ITS FALSE NEIGHBOUR: 'it returns false'. Refute it at one input. -/
def raftOneWrong : ChangeSpec := { name := "raftOne", fn := fun _ => fun
  | [d] => { results := [.lit (.bool false)], args := [d] }
  | _ => none }
def RaftOneWrongFalsely : Prop := raftOneRow.holds Try.pinned (OpenSpec.ofChange raftOneWrong)

/-- 'coxswainlaw09.RaftLearns': WHATEVER THE INPUT: true; the input reads as it did. -/
def raftLearnsSpec : ChangeSpec := { name := "raftLearns", fn := fun _ => fun
  | [d] => { results := [.lit (.bool true)], args := [d] }
  | _ => none }
def raftLearnsRow : OpenClaim := { program := "ytjhmkaninmgilaa", sum := "988aa3fcc211ac0b4213560436c45e48e4e6d4fab838f5258b69819477a45cbd", func := "coxswain/coxswainlaw09.RaftLearns", spec := "raftLearns", unfollowed := true, recurses := true, apart := false }
def RaftLearnsSaid : Prop := raftLearnsRow.holds Try.pinned (OpenSpec.ofChange raftLearnsSpec)

/-- ITS FALSE NEIGHBOUR: 'it returns false'. Refute it at one input. -/
def raftLearnsWrong : ChangeSpec := { name := "raftLearns", fn := fun _ => fun
  | [d] => { results := [.lit (.bool false)], args := [d] }
  | _ => none }
def RaftLearnsWrongFalsely : Prop := raftLearnsRow.holds Try.pinned (OpenSpec.ofChange raftLearnsWrong)

/-- 'coxswainlaw09.RaftGrown': WHATEVER THE INPUT: true; the input reads as it did. -/
def raftGrownSpec : ChangeSpec := { name := "raftGrown", fn := fun _ => fun
  | [d] => { results := [.lit (.bool true)], args := [d] }
  | _ => none }
def raftGrownRow : OpenClaim := { program := "ytjhmkaninmgilaa", sum := "988aa3fcc211ac0b4213560436c45e48e4e6d4fab838f5258b69819477a45cbd", func := "coxswain/coxswainlaw09.RaftGrown", spec := "raftGrown", unfollowed := true, recurses := true, apart := false }
def RaftGrownSaid : Prop := raftGrownRow.holds Try.pinned (OpenSpec.ofChange raftGrownSpec)

/-- ITS FALSE NEIGHBOUR: 'it returns false'. Refute it at one input. -/
def raftGrownWrong : ChangeSpec := { name := "raftGrown", fn := fun _ => fun
  | [d] => { results := [.lit (.bool false)], args := [d] }
  | _ => none }
def RaftGrownWrongFalsely : Prop := raftGrownRow.holds Try.pinned (OpenSpec.ofChange raftGrownWrong)

/-- 'coxswainlaw09.RaftStale': WHATEVER THE INPUT: true; the input reads as it did. -/
def raftStaleSpec : ChangeSpec := { name := "raftStale", fn := fun _ => fun
  | [d1, d2] => { results := [.lit (.bool true)], args := [d1, d2] }
  | _ => none }
def raftStaleRow : OpenClaim := { program := "ytjhmkaninmgilaa", sum := "988aa3fcc211ac0b4213560436c45e48e4e6d4fab838f5258b69819477a45cbd", func := "coxswain/coxswainlaw09.RaftStale", spec := "raftStale", unfollowed := true, recurses := true, apart := false }
def RaftStaleSaid : Prop := raftStaleRow.holds Try.pinned (OpenSpec.ofChange raftStaleSpec)

/-- ITS FALSE NEIGHBOUR: 'it returns false'. Refute it at one input. -/
def raftStaleWrong : ChangeSpec := { name := "raftStale", fn := fun _ => fun
  | [d1, d2] => { results := [.lit (.bool false)], args := [d1, d2] }
  | _ => none }
def RaftStaleWrongFalsely : Prop := raftStaleRow.holds Try.pinned (OpenSpec.ofChange raftStaleWrong)

/- THE SECOND FORM. 'bulk': how many values and letters a reading holds, each counted each time it is reached (what is shared counts as often as it is met; a slice's spare places count too). A statement '..UptoSaid' is the law's where the arguments, and the package variables that the reading takes, are together of bulk at most 1048576: NARROWER than '..Said'. Prove '..Said' where nothing that the law and all that it calls make is longer than what came in: it says more and counts as full. Else prove '..UptoSaid'. A law counts once. -/
mutual
def uptoBulk {H : Type} : DataW H → Nat
  | .lit (.string bytes) => bytes.length + 1
  | .lit _ => 1
  | .nil => 1
  | .ptr d => uptoBulk d + 1
  | .slice elems spare => uptoBulkAll elems + uptoBulkAll spare + 1
  | .agg parts => uptoBulkAll parts + 1
  | .iface _ d => uptoBulk d + 1
  | .map entries => uptoBulkEntries entries + 1
  | .held _ => 1
def uptoBulkAll {H : Type} : List (DataW H) → Nat
  | [] => 0
  | d :: r => uptoBulk d + uptoBulkAll r
def uptoBulkEntries {H : Type} : List (Lit × DataW H) → Nat
  | [] => 0
  | x :: r => uptoBulkEntry x + uptoBulkEntries r
def uptoBulkEntry {H : Type} : Lit × DataW H → Nat
  | (.string bytes, d) => bytes.length + uptoBulk d + 1
  | (_, d) => uptoBulk d + 1
 end
def uptoSmall : (H : Type) → List (DataW H) → Bool := fun _ ds => decide (uptoBulkAll ds ≤ 1048576)
def OpenSpec.upto (s : _root_.Go.ChangeSpec) : _root_.Go.OpenSpec := { _root_.Go.OpenSpec.ofChange s with cond := some uptoSmall }

/-- 'coxswainlaw09.RaftOut', WHERE WHAT IT READS IS OF BULK AT MOST 1048576: true; the input reads as it did. -/
def raftOutUptoRow : OpenClaim := { program := "ytjhmkaninmgilaa", sum := "988aa3fcc211ac0b4213560436c45e48e4e6d4fab838f5258b69819477a45cbd", func := "coxswain/coxswainlaw09.RaftOut", spec := "raftOut", unfollowed := true, recurses := true, apart := false, narrowed := true }
def RaftOutUptoSaid : Prop := raftOutUptoRow.holds Try.pinned (OpenSpec.upto raftOutSpec)

/-- 'coxswainlaw09.RaftOne', WHERE WHAT IT READS IS OF BULK AT MOST 1048576: true; the input reads as it did. -/
def raftOneUptoRow : OpenClaim := { program := "ytjhmkaninmgilaa", sum := "988aa3fcc211ac0b4213560436c45e48e4e6d4fab838f5258b69819477a45cbd", func := "coxswain/coxswainlaw09.RaftOne", spec := "raftOne", unfollowed := true, recurses := true, apart := false, narrowed := true }
def RaftOneUptoSaid : Prop := raftOneUptoRow.holds Try.pinned (OpenSpec.upto raftOneSpec)

/-- 'coxswainlaw09.RaftLearns', WHERE WHAT IT READS IS OF BULK AT MOST 1048576: true; the input reads as it did. -/
def raftLearnsUptoRow : OpenClaim := { program := "ytjhmkaninmgilaa", sum := "988aa3fcc211ac0b4213560436c45e48e4e6d4fab838f5258b69819477a45cbd", func := "coxswain/coxswainlaw09.RaftLearns", spec := "raftLearns", unfollowed := true, recurses := true, apart := false, narrowed := true }
def RaftLearnsUptoSaid : Prop := raftLearnsUptoRow.holds Try.pinned (OpenSpec.upto raftLearnsSpec)

/-- 'coxswainlaw09.RaftGrown', WHERE WHAT IT READS IS OF BULK AT MOST 1048576: true; the input reads as it did. -/
def raftGrownUptoRow : OpenClaim := { program := "ytjhmkaninmgilaa", sum := "988aa3fcc211ac0b4213560436c45e48e4e6d4fab838f5258b69819477a45cbd", func := "coxswain/coxswainlaw09.RaftGrown", spec := "raftGrown", unfollowed := true, recurses := true, apart := false, narrowed := true }
def RaftGrownUptoSaid : Prop := raftGrownUptoRow.holds Try.pinned (OpenSpec.upto raftGrownSpec)

/-- 'coxswainlaw09.RaftStale', WHERE WHAT IT READS IS OF BULK AT MOST 1048576: true; the input reads as it did. -/
def raftStaleUptoRow : OpenClaim := { program := "ytjhmkaninmgilaa", sum := "988aa3fcc211ac0b4213560436c45e48e4e6d4fab838f5258b69819477a45cbd", func := "coxswain/coxswainlaw09.RaftStale", spec := "raftStale", unfollowed := true, recurses := true, apart := false, narrowed := true }
def RaftStaleUptoSaid : Prop := raftStaleUptoRow.holds Try.pinned (OpenSpec.upto raftStaleSpec)

end Rows
end Go.Proofs.Ytjhmkaninmgilaa
