/-
  What each function of this seat computes, and that it keeps to it (G).
-/
import Derived.Test.YtippnelhkdjknaaCZ
import Derived.Test.YtippnelhkdjknaaKD
set_option linter.unusedSimpArgs false
set_option linter.unusedVariables false
namespace Go.Proofs.Ytippnelhkdjknaa
open Go Go.Eng Go.Proofs

theorem c8p : PureFn Try.prog 8 s8p (pre 8) (phi 8) := plain_of_ex c8 rfl
theorem con8p : Con Try.prog pre phi tb8p := con_cons c8p con8

theorem cknownX : PureFn Try.prog 24 sknownX (pre 24) (phi 24) := by
  refine pureFn_auto (given := [(1000000, {drop := [13]})]) mix con8p Try.func24 (by kernel_rfl) (v := vcknownX) (by kernel_rfl) ?_
  intro ds h hp
  simp [vcknownX, vh_obl, vh_call, vh_room, vh_branch, vh_loop, vh_again, vh_ret, vh_any, vh_hav, vh_range, pre, updV, den, U.den, B.den, upd, condB, toL_list, toL_agg, toL_tup, toL_ptr, toL_fn, toI_int, toB_bool]
  rfl
theorem conknownX : Con Try.prog pre phi tbknownX := con_cons cknownX con8p

end Go.Proofs.Ytippnelhkdjknaa
