/-
  What each function of this seat computes, and that it keeps to it (X).
-/
import Derived.Test.YtjpkeliliahjoaaCW
set_option linter.unusedSimpArgs false
set_option linter.unusedVariables false
namespace Go.Proofs.Ytjpkeliliahjoaa
open Go Go.Eng Go.Proofs


theorem clone_fin {t : Ty} {n : Nat} {l : List D} (hl : lenOkK 140737488355328 t l.length) (hb : t.bytes = n) : (l = [] → ∀ (d : D), Has Ty.bool d → (d.toB = true → l = []) ∧ (d.toB = false → l.length ≤ maxLen ∧ l.length * n ≤ 140737488355328)) ∧
    (¬l = [] → ∀ (d : D), Has Ty.bool d → l.length ≤ maxLen ∧ l.length * n ≤ 140737488355328) := by
  subst hb
  exact ⟨fun h _ _ => ⟨fun _ => h, fun _ => hl⟩, fun _ _ _ => hl⟩
theorem c51 : PureFn Try.prog 51 s51 (pre 51) (phi 51) := by
  refine pureFn_auto (given := []) mix con7 Try.func51 (by kernel_rfl) (v := vc51) (by kernel_rfl) ?_
  intro ds h hp
  obtain ⟨_, _, rfl, ⟨l, rfl, hl, hg⟩, rfl⟩ := h
  have hR : phi 51 [.list l] = .list l := rfl
  simp [vc51, vh_obl, vh_call, vh_room, vh_branch, vh_loop, vh_again, vh_ret, vh_any, vh_hav, updV, den, U.den, B.den, upd, condB, toL_list, toL_agg, toL_tup, toL_ptr, toL_fn, toI_int, toB_bool, pre, hR, upd]
  exact clone_fin hl rfl
theorem con51 : Con Try.prog pre phi tb51 := con_cons c51 con7

theorem c52 : PureFn Try.prog 52 s52 (pre 52) (phi 52) := by
  refine pureFn_auto (given := []) mix con51 Try.func52 (by kernel_rfl) (v := vc52) (by kernel_rfl) ?_
  intro ds h hp
  obtain ⟨_, _, rfl, ⟨l, rfl, hl, hg⟩, rfl⟩ := h
  have hR : phi 52 [.list l] = .list l := rfl
  simp [vc52, vh_obl, vh_call, vh_room, vh_branch, vh_loop, vh_again, vh_ret, vh_any, vh_hav, updV, den, U.den, B.den, upd, condB, toL_list, toL_agg, toL_tup, toL_ptr, toL_fn, toI_int, toB_bool, pre, hR, upd]
  exact clone_fin hl rfl
theorem con52 : Con Try.prog pre phi tb52 := con_cons c52 con51

theorem c53 : PureFn Try.prog 53 s53 (pre 53) (phi 53) := by
  refine pureFn_auto (given := []) mix con52 Try.func53 (by kernel_rfl) (v := vc53) (by kernel_rfl) ?_
  intro ds h hp
  obtain ⟨_, _, rfl, ⟨l, rfl, hl, hg⟩, rfl⟩ := h
  have hR : phi 53 [.list l] = .list l := rfl
  simp [vc53, vh_obl, vh_call, vh_room, vh_branch, vh_loop, vh_again, vh_ret, vh_any, vh_hav, updV, den, U.den, B.den, upd, condB, toL_list, toL_agg, toL_tup, toL_ptr, toL_fn, toI_int, toB_bool, pre, hR, upd]
  exact clone_fin hl rfl
theorem con53 : Con Try.prog pre phi tb53 := con_cons c53 con52

theorem c54 : PureFn Try.prog 54 s54 (pre 54) (phi 54) := by
  refine pureFn_auto (given := []) mix con53 Try.func54 (by kernel_rfl) (v := vc54) (by kernel_rfl) ?_
  intro ds h hp
  obtain ⟨_, _, rfl, ⟨l, rfl, hl, hg⟩, rfl⟩ := h
  have hR : phi 54 [.list l] = .list l := rfl
  simp [vc54, vh_obl, vh_call, vh_room, vh_branch, vh_loop, vh_again, vh_ret, vh_any, vh_hav, updV, den, U.den, B.den, upd, condB, toL_list, toL_agg, toL_tup, toL_ptr, toL_fn, toI_int, toB_bool, pre, hR, upd]
  exact clone_fin hl rfl
theorem con54 : Con Try.prog pre phi tb54 := con_cons c54 con53

theorem c55 : PureFn Try.prog 55 s55 (pre 55) (phi 55) := by
  refine pureFn_auto (given := []) mix con54 Try.func55 (by kernel_rfl) (v := vc55) (by kernel_rfl) ?_
  intro ds h hp
  obtain ⟨_, _, rfl, ⟨l, rfl, hl, hg⟩, rfl⟩ := h
  have hR : phi 55 [.list l] = .list l := rfl
  simp [vc55, vh_obl, vh_call, vh_room, vh_branch, vh_loop, vh_again, vh_ret, vh_any, vh_hav, updV, den, U.den, B.den, upd, condB, toL_list, toL_agg, toL_tup, toL_ptr, toL_fn, toI_int, toB_bool, pre, hR, upd]
  exact clone_fin hl rfl
theorem con55 : Con Try.prog pre phi tb55 := con_cons c55 con54

theorem c74 : PureFn Try.prog 74 s74 (pre 74) (phi 74) := by
  refine pureFn_auto (given := []) mix con55 Try.func74 (by kernel_rfl) (v := vc74) (by kernel_rfl) ?_
  intro ds h hp
  obtain ⟨_, _, rfl, ⟨l, rfl, hl, hg⟩, rfl⟩ := h
  have hR : phi 74 [.list l] = .list l := rfl
  simp [vc74, vh_obl, vh_call, vh_room, vh_branch, vh_loop, vh_again, vh_ret, vh_any, vh_hav, updV, den, U.den, B.den, upd, condB, toL_list, toL_agg, toL_tup, toL_ptr, toL_fn, toI_int, toB_bool, pre, hR, upd]
  exact clone_fin hl rfl
theorem con74 : Con Try.prog pre phi tb74 := con_cons c74 con55

theorem c69 : PureFn Try.prog 69 s69 (pre 69) (phi 69) := by
  refine pureFn_auto (given := []) mix con74 Try.func69 (by kernel_rfl) (v := vc69) (by kernel_rfl) ?_
  intro ds h hp
  obtain ⟨_, _, rfl, gj, rfl⟩ := h
  obtain ⟨j, rfl, hj⟩ := AJob.cases gj
  have hR : phi 69 [j.enc] = j.enc := rfl
  have hC : ∀ l, phi 74 [l] = l := fun _ => rfl
  simp [vc69, vh_obl, vh_call, vh_room, vh_branch, vh_loop, vh_again, vh_ret, vh_any, vh_hav, pre, updV, den, U.den, B.den, upd, condB, toL_list, toL_agg, toL_tup, toL_ptr, toL_fn, toI_int, toB_bool, AJob.toL, encL_toL, hR, hC]
  rfl
theorem con69 : Con Try.prog pre phi tb69 := con_cons c69 con74


def PJ (l : List AJob) (xs : List D) : Prop := ∃ n : Nat, xs = [encL AJob.enc (l.take n), .int .i64 n] ∧ n ≤ l.length
theorem PJ.next {l : List AJob} {n : Nat} {x : AJob} (h : l[n]? = some x) : PJ l [encL AJob.enc (l.take n ++ [x]), .int .i64 ((n : Int) + 1)] ∧ FM l 1 [encL AJob.enc (l.take n ++ [x]), .int .i64 ((n : Int) + 1)] < FM l 1 [encL AJob.enc (l.take n), .int .i64 n] := by
  obtain ⟨hlt, hge⟩ := List.getElem?_eq_some_iff.1 h
  refine ⟨⟨n + 1, ?_, hlt⟩, ?_⟩
  · rw [List.take_add_one, h]; rfl
  · simp only [FM, I, D.toL, List.getD_cons_succ, List.getD_cons_zero, D.toI]; omega
theorem c50 : PureFn Try.prog 50 s50 (pre 50) (phi 50) := by
  refine pureFn_autoF (given := []) mix con69 Try.func50 (by kernel_rfl) (v := vc50) (by kernel_rfl) ?_
  intro ds h hp
  obtain ⟨_, _, rfl, gl, rfl⟩ := h
  obtain ⟨l, rfl, hl, hg⟩ := AJob.cases_l gl
  have hR : phi 50 [encL AJob.enc l] = encL AJob.enc l := rfl
  have hJ : ∀ j : AJob, phi 69 [j.enc] = j.enc := fun _ => rfl
  simp only [vc50, vh_obl, vh_call, vh_room, vh_branch, vh_loop, vh_again, vh_ret, vh_any, vh_hav, pre, implies_true, true_and]
  refine LoopOk.intro (PJ l) (FM l 1) ⟨0, by simp [encL, den], Nat.zero_le _⟩ ?_
  rintro xs hxs ⟨n, rfl, hle⟩
  rcases hx : l[n]? with _ | x
  · have hge := ge_none hx
    simp [updV, den, U.den, B.den, upd, condB, toL_list, toL_agg, toL_tup, toL_ptr, toL_fn, toI_int, toB_bool, encL_toL, hge, Nat.not_lt.2 hge, List.take_of_length_le hge, hR]
    try rfl
  · obtain ⟨hlt, hge2⟩ := List.getElem?_eq_some_iff.1 hx
    have hw := next64 hl.1 hlt
    have hb := lenOk.mono hl hlt
    simp [updV, den, U.den, B.den, upd, condB, toL_list, toL_agg, toL_tup, toL_ptr, toL_fn, toI_int, toB_bool, encL_toL, hJ, AJob.toL, AJob.fold, hge2, hlt, Nat.not_le.2 hlt, hw, snoc_job, -List.map_take]
    first | (refine ⟨⟨by have := hb.1; omega, by have : (n + 1) * 72 ≤ 140737488355328 := hb.2; omega⟩, PJ.next hx⟩) | trace_state
theorem con50 : Con Try.prog pre phi tb50 := con_cons c50 con69

end Go.Proofs.Ytjpkeliliahjoaa
