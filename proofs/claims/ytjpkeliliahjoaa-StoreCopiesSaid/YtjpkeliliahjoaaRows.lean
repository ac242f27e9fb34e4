/-
  No cell of these rows narrows 'for every input' (looked for: loops, veiled, ifaces, maps, wideKeys, modest, calm, conditions, laid).
  DERIVED. THE GIVEN ROWS OF THIS SEAT. 5 by the template 'for every input the law returns true; each argument reads behind the call as it read before'; 0 by the template 'total and deterministic' (their statements: YtjpkeliliahjoaaTotals.lean).
  GIVEN WITH THE SEED: the statements are not yours to turn. If you find one false, say at which input.
  Laid BY PROGRAM, IN A SANDBOX (cutbox-rows.mjs): the forced cells as the released guide's own fill.sh prints them over the translation 109aaa5a670083e0… (all of the seat's roots in one cut). By AI agents, Wed Nov 11 2026. No macro, syntax, notation, axiom, sorry.
-/
import Derived.Test.YtjpkeliliahjoaaChecked
import GoSem.Claim
import GoSem.ClaimJoined
import GoSem.ClaimMapViews
import Derived.JoinedTies
import Derived.KernelRfl
namespace Go.Proofs.Ytjpkeliliahjoaa
/- THE CELL 'sum', in the pinned program and in every row, IS THE sha256 OF THE DUMP (.gsa) THAT YtjpkeliliahjoaaProg.lean LOADS. Nothing in Lean hashes anything: it is a label: what it is worth is what the hold of that sum in a sandbox is worth. -/
noncomputable def Try.pinned : Pinned := { name := "ytjpkeliliahjoaa", sum := "109aaa5a670083e05095789a85d1ac9b16b3dfef4fcb940e8326261abf7f53ff", checked := Try.checked }
namespace Rows
def none {H : Type} : Left H := { results := [], args := [] }

/-- 'coxswainlaw10.StoreCounts': WHATEVER THE INPUT: true; the input reads as it did. -/
def storeCountsSpec : ChangeSpec := { name := "storeCounts", fn := fun _ => fun
  | [d1, d2] => { results := [.lit (.bool true)], args := [d1, d2] }
  | _ => none }
def storeCountsRow : OpenClaim := { program := "ytjpkeliliahjoaa", sum := "109aaa5a670083e05095789a85d1ac9b16b3dfef4fcb940e8326261abf7f53ff", func := "coxswain/coxswainlaw10.StoreCounts", spec := "storeCounts", unfollowed := true, recurses := true, apart := false }
def StoreCountsSaid : Prop := storeCountsRow.holds Try.pinned (OpenSpec.ofChange storeCountsSpec)

/-- ITS FALSE NEIGHBOUR: 'it returns false'. Refute it at one input. -/
def storeCountsWrong : ChangeSpec := { name := "storeCounts", fn := fun _ => fun
  | [d1, d2] => { results := [.lit (.bool false)], args := [d1, d2] }
  | _ => none }
def StoreCountsWrongFalsely : Prop := storeCountsRow.holds Try.pinned (OpenSpec.ofChange storeCountsWrong)

/-- 'coxswainlaw10.StoreMore': WHATEVER THE INPUT: true; the input reads as it did. -/
def storeMoreSpec : ChangeSpec := { name := "storeMore", fn := fun _ => fun
  | [d1, d2, d3] => { results := [.lit (.bool true)], args := [d1, d2, d3] }
  | _ => none }
def storeMoreRow : OpenClaim := { program := "ytjpkeliliahjoaa", sum := "109aaa5a670083e05095789a85d1ac9b16b3dfef4fcb940e8326261abf7f53ff", func := "coxswain/coxswainlaw10.StoreMore", spec := "storeMore", unfollowed := true, recurses := true, apart := false }
def StoreMoreSaid : Prop := storeMoreRow.holds Try.pinned (OpenSpec.ofChange storeMoreSpec)

/-- ITS FALSE NEIGHBOUR: 'it returns false'. Refute it at one input. -/
def storeMoreWrong : ChangeSpec := { name := "storeMore", fn := fun _ => fun
  | [d1, d2, d3] => { results := [.lit (.bool false)], args := [d1, d2, d3] }
  | _ => none }
def StoreMoreWrongFalsely : Prop := storeMoreRow.holds Try.pinned (OpenSpec.ofChange storeMoreWrong)

/-- 'coxswainlaw10.StoreFinds': WHATEVER THE INPUT: true; the input reads as it did. -/
def storeFindsSpec : ChangeSpec := { name := "storeFinds", fn := fun _ => fun
  | [d1, d2] => { results := [.lit (.bool true)], args := [d1, d2] }
  | _ => none }
def storeFindsRow : OpenClaim := { program := "ytjpkeliliahjoaa", sum := "109aaa5a670083e05095789a85d1ac9b16b3dfef4fcb940e8326261abf7f53ff", func := "coxswain/coxswainlaw10.StoreFinds", spec := "storeFinds", unfollowed := true, recurses := true, apart := false }
def StoreFindsSaid : Prop := storeFindsRow.holds Try.pinned (OpenSpec.ofChange storeFindsSpec)

/-- ITS FALSE NEIGHBOUR: 'it returns false'. Refute it at one input. -/
def storeFindsWrong : ChangeSpec := { name := "storeFinds", fn := fun _ => fun
  | [d1, d2] => { results := [.lit (.bool false)], args := [d1, d2] }
  | _ => none }
def StoreFindsWrongFalsely : Prop := storeFindsRow.holds Try.pinned (OpenSpec.ofChange storeFindsWrong)

/-- 'coxswainlaw10.StoreCopies': WHATEVER THE INPUT: true; the input reads as it did. -/
def storeCopiesSpec : ChangeSpec := { name := "storeCopies", fn := fun _ => fun
  | [d] => { results := [.lit (.bool true)], args := [d] }
  | _ => none }
def storeCopiesRow : OpenClaim := { program := "ytjpkeliliahjoaa", sum := "109aaa5a670083e05095789a85d1ac9b16b3dfef4fcb940e8326261abf7f53ff", func := "coxswain/coxswainlaw10.StoreCopies", spec := "storeCopies", unfollowed := true, recurses := true, apart := false }
def StoreCopiesSaid : Prop := storeCopiesRow.holds Try.pinned (OpenSpec.ofChange storeCopiesSpec)

/-- ITS FALSE NEIGHBOUR: 'it returns false'. Refute it at one input. -/
def storeCopiesWrong : ChangeSpec := { name := "storeCopies", fn := fun _ => fun
  | [d] => { results := [.lit (.bool false)], args := [d] }
  | _ => none }
def StoreCopiesWrongFalsely : Prop := storeCopiesRow.holds Try.pinned (OpenSpec.ofChange storeCopiesWrong)

/-- 'coxswainlaw10.StoreSame': WHATEVER THE INPUT: true; the input reads as it did. -/
def storeSameSpec : ChangeSpec := { name := "storeSame", fn := fun _ => fun
  | [d1, d2, d3] => { results := [.lit (.bool true)], args := [d1, d2, d3] }
  | _ => none }
def storeSameRow : OpenClaim := { program := "ytjpkeliliahjoaa", sum := "109aaa5a670083e05095789a85d1ac9b16b3dfef4fcb940e8326261abf7f53ff", func := "coxswain/coxswainlaw10.StoreSame", spec := "storeSame", unfollowed := true, recurses := true, apart := false }
def StoreSameSaid : Prop := storeSameRow.holds Try.pinned (OpenSpec.ofChange storeSameSpec)

/-- ITS FALSE NEIGHBOUR: 'it returns false'. Refute it at one input. -/
def storeSameWrong : ChangeSpec := { name := "storeSame", fn := fun _ => fun
  | [d1, d2, d3] => { results := [.lit (.bool false)], args := [d1, d2, d3] }
  | _ => none }
def StoreSameWrongFalsely : Prop := storeSameRow.holds Try.pinned (OpenSpec.ofChange storeSameWrong)

/- THE SECOND FORM. 'bulk': how many values and letters a reading holds, each counted each time it is reached (what is shared counts as often as it is met; a slice's spare places count too). A statement '..UptoSaid' is the law's where the arguments, and the package variables that the reading takes, are together of bulk at most 1048576: NARROWER than '..Said'. Prove '..Said' where nothing that the law and all that it calls make is longer than what came in: it says more and counts as full. Else prove '..UptoSaid'. A law counts once. -/
mutual
def uptoBulk {H : Type} : DataW H → Nat
  | .lit (.string bytes) => bytes.length + 1
  | .lit _ => 1
  | .nil => 1
  | .ptr d => uptoBulk d + 1
  | .slice elems spare => uptoBulkAll elems + uptoBulkAll spare + 1
  | .agg parts => uptoBulkAll parts + 1
  | .iface _ d => uptoBulk d + 1
  | .map entries => uptoBulkEntries entries + 1
  | .held _ => 1
def uptoBulkAll {H : Type} : List (DataW H) → Nat
  | [] => 0
  | d :: r => uptoBulk d + uptoBulkAll r
def uptoBulkEntries {H : Type} : List (Lit × DataW H) → Nat
  | [] => 0
  | x :: r => uptoBulkEntry x + uptoBulkEntries r
def uptoBulkEntry {H : Type} : Lit × DataW H → Nat
  | (.string bytes, d) => bytes.length + uptoBulk d + 1
  | (_, d) => uptoBulk d + 1
 end
def uptoSmall : (H : Type) → List (DataW H) → Bool := fun _ ds => decide (uptoBulkAll ds ≤ 1048576)
def OpenSpec.upto (s : _root_.Go.ChangeSpec) : _root_.Go.OpenSpec := { _root_.Go.OpenSpec.ofChange s with cond := some uptoSmall }

/-- 'coxswainlaw10.StoreCounts', WHERE WHAT IT READS IS OF BULK AT MOST 1048576: true; the input reads as it did. -/
def storeCountsUptoRow : OpenClaim := { program := "ytjpkeliliahjoaa", sum := "109aaa5a670083e05095789a85d1ac9b16b3dfef4fcb940e8326261abf7f53ff", func := "coxswain/coxswainlaw10.StoreCounts", spec := "storeCounts", unfollowed := true, recurses := true, apart := false, narrowed := true }
def StoreCountsUptoSaid : Prop := storeCountsUptoRow.holds Try.pinned (OpenSpec.upto storeCountsSpec)

/-- 'coxswainlaw10.StoreMore', WHERE WHAT IT READS IS OF BULK AT MOST 1048576: true; the input reads as it did. -/
def storeMoreUptoRow : OpenClaim := { program := "ytjpkeliliahjoaa", sum := "109aaa5a670083e05095789a85d1ac9b16b3dfef4fcb940e8326261abf7f53ff", func := "coxswain/coxswainlaw10.StoreMore", spec := "storeMore", unfollowed := true, recurses := true, apart := false, narrowed := true }
def StoreMoreUptoSaid : Prop := storeMoreUptoRow.holds Try.pinned (OpenSpec.upto storeMoreSpec)

/-- 'coxswainlaw10.StoreFinds', WHERE WHAT IT READS IS OF BULK AT MOST 1048576: true; the input reads as it did. -/
def storeFindsUptoRow : OpenClaim := { program := "ytjpkeliliahjoaa", sum := "109aaa5a670083e05095789a85d1ac9b16b3dfef4fcb940e8326261abf7f53ff", func := "coxswain/coxswainlaw10.StoreFinds", spec := "storeFinds", unfollowed := true, recurses := true, apart := false, narrowed := true }
def StoreFindsUptoSaid : Prop := storeFindsUptoRow.holds Try.pinned (OpenSpec.upto storeFindsSpec)

/-- 'coxswainlaw10.StoreCopies', WHERE WHAT IT READS IS OF BULK AT MOST 1048576: true; the input reads as it did. -/
def storeCopiesUptoRow : OpenClaim := { program := "ytjpkeliliahjoaa", sum := "109aaa5a670083e05095789a85d1ac9b16b3dfef4fcb940e8326261abf7f53ff", func := "coxswain/coxswainlaw10.StoreCopies", spec := "storeCopies", unfollowed := true, recurses := true, apart := false, narrowed := true }
def StoreCopiesUptoSaid : Prop := storeCopiesUptoRow.holds Try.pinned (OpenSpec.upto storeCopiesSpec)

/-- 'coxswainlaw10.StoreSame', WHERE WHAT IT READS IS OF BULK AT MOST 1048576: true; the input reads as it did. -/
def storeSameUptoRow : OpenClaim := { program := "ytjpkeliliahjoaa", sum := "109aaa5a670083e05095789a85d1ac9b16b3dfef4fcb940e8326261abf7f53ff", func := "coxswain/coxswainlaw10.StoreSame", spec := "storeSame", unfollowed := true, recurses := true, apart := false, narrowed := true }
def StoreSameUptoSaid : Prop := storeSameUptoRow.holds Try.pinned (OpenSpec.upto storeSameSpec)

end Rows
end Go.Proofs.Ytjpkeliliahjoaa
