/-
  What each function of this seat computes, and that it keeps to it (H).
-/
import Derived.Test.YtippnelhkdjknaaCG
import Derived.Test.YtippnelhkdjknaaKG
set_option linter.unusedSimpArgs false
set_option linter.unusedVariables false
namespace Go.Proofs.Ytippnelhkdjknaa
open Go Go.Eng Go.Proofs

theorem c10 : PureFn Try.prog 10 s10 (pre 10) (phi 10) := lives_ok
theorem con10 : Con Try.prog pre phi tb10 := con_cons c10 conknownX

end Go.Proofs.Ytippnelhkdjknaa
