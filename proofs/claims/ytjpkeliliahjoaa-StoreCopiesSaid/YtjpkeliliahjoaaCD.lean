/-
  What each function of this seat computes, and that it keeps to it (D).
-/
import Derived.Test.YtjpkeliliahjoaaCB
set_option linter.unusedSimpArgs false
set_option linter.unusedVariables false
namespace Go.Proofs.Ytjpkeliliahjoaa
open Go Go.Eng Go.Proofs

theorem c3 : PureFn Try.prog 3 s3 (pre 3) (phi 3) := by
  refine pureFn_auto (given := []) mix con14 Try.func3 (by kernel_rfl) (v := vc3) (by kernel_rfl) ?_
  intro ds h hp
  obtain ⟨_, _, rfl, gs, _, _, rfl, ga, rfl⟩ := h
  obtain ⟨s, rfl, hs⟩ := AStore.cases gs
  obtain ⟨y, rfl⟩ := AAsk.cases ga
  simp [vc3, vh_obl, vh_call, vh_room, vh_branch, vh_loop, vh_again, vh_ret, vh_any, vh_hav, pre, updV, den, U.den, B.den, upd, condB, toL_list, toL_agg, toL_tup, toL_ptr, toL_fn, toI_int, toB_bool, AStore.toL, AStore.fold, ANode.toL, AAlc.toL, AJob.toL, AGrp.toL, AEvl.toL, ARes.toL, ARes.eta, encL_toL, AAsk.toL, hSlots, hSlotsR, hUsed, hUsedR, hSlot, hSlotR, hLives, ARes.enc, phi]
theorem con3 : Con Try.prog pre phi tb3 := con_cons c3 con14

theorem c5 : PureFn Try.prog 5 s5 (pre 5) (phi 5) := by
  refine pureFn_auto (given := []) mix con3 Try.func5 (by kernel_rfl) (v := vc5) (by kernel_rfl) ?_
  intro ds h hp
  obtain ⟨_, _, rfl, gs, _, _, rfl, ga, rfl⟩ := h
  obtain ⟨s, rfl, hs⟩ := AStore.cases gs
  obtain ⟨y, rfl⟩ := AAsk.cases ga
  have ho : phi 28 [y.a.enc] = .bool (over y.a) := rfl
  have ho2 : phi 29 [y.a.enc] = .bool (over y.a) := rfl
  have hR : ∀ l, phi 5 l = .bool true := fun _ => rfl
  simp [vc5, vh_obl, vh_call, vh_room, vh_branch, vh_loop, vh_again, vh_ret, vh_any, vh_hav, pre, updV, den, U.den, B.den, upd, condB, toL_list, toL_agg, toL_tup, toL_ptr, toL_fn, toI_int, toB_bool, AStore.toL, AStore.fold, ANode.toL, AAlc.toL, AJob.toL, AGrp.toL, AEvl.toL, ARes.toL, ARes.eta, encL_toL, AAsk.toL, AAlc.fold, hFinds, hLives, ho, ho2, hR]
theorem con5 : Con Try.prog pre phi tb5 := con_cons c5 con3

end Go.Proofs.Ytjpkeliliahjoaa
