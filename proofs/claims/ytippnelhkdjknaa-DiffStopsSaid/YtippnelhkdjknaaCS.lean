/-
  What each function of this seat computes, and that it keeps to it (S).
-/
import Derived.Test.YtippnelhkdjknaaCO
set_option linter.unusedSimpArgs false
set_option linter.unusedVariables false
namespace Go.Proofs.Ytippnelhkdjknaa
open Go Go.Eng Go.Proofs


theorem c6 : PureFn Try.prog 6 s6 (pre 6) (phi 6) := by
  refine pureFn_auto (given := [(6, {drop := [3000006]})]) mix con15 Try.func6 (by kernel_rfl) (v := vc6) (by kernel_rfl) ?_
  intro ds h hp
  obtain ⟨_, _, rfl, gs, _, _, rfl, ⟨job, rfl, _⟩, rfl⟩ := h
  obtain ⟨s, rfl, hs⟩ := AStore.cases gs
  have hR : ∀ l, phi 6 l = .bool true := fun _ => rfl
  simp only [vc6, vh_obl, vh_call, vh_room, vh_branch, vh_loop, vh_again, vh_ret, vh_any, vh_hav, vh_range, implies_true, true_and]
  rcases find0 (fun x : AJob => x.ID == job) s.Jobs with ⟨h1, h2⟩ | ⟨nj, j, h1, hx, h2⟩
  · have h1' : jobI s job = -1 := h1
    simp [-List.any_eq_true, -List.any_eq_false, updV, den, U.den, B.den, upd, condB, toL_list, toL_agg, toL_tup, toL_ptr, toL_fn, toI_int, toB_bool, AStore.toL, AStore.fold, ANode.toL, AAlc.toL, AJob.toL, AGrp.toL, AEvl.toL, ARes.toL, ARes.eta, encL_toL, hRefJob, h1', hR, hLives, hPre2]
  have h1' : jobI s job = nj := h1
  obtain ⟨hlt, hge⟩ := List.getElem?_eq_some_iff.1 hx
  have hn0 : ¬ ((nj : Int) < 0) := by omega
  have hal2 : s.Allocs.length * 88 ≤ 140737488355328 := by
    have h : s.Allocs.length * allocT.bytes ≤ 140737488355328 := hs.Allocs.1.2
    have hb : allocT.bytes = 88 := by decide
    rwa [hb] at h
  have hfs : (stopAtS s nj j).Jobs.find? (fun x => x.ID == job) = some (stopJ j) := by
    have hid := List.find?_some h2
    exact find_set hx h2 (find0_before h1) hid
  have hrt : roomJ (stopAtS s nj j) job := by
    intro y hy
    rw [hfs] at hy
    injection hy with hy
    subst hy
    have h0 : slotsL (stopAtS s nj j) (stopJ j) = [] := by simp [slotsL, stopJ]
    have h1 : (stopAtS s nj j).Allocs.length = s.Allocs.length := rfl
    rw [h0, h1]; simp; omega
  have hdl : diffL (stopAtS s nj j) job = ((s.Allocs.filter (runs job)).map AAlc.ID, []) := by
    refine diffL_stopped (j := stopJ j) ?_ rfl
    have hb := find0_before h1
    have hid := List.find?_some h2
    exact find_set hx h2 hb hid
  simp [-List.any_eq_true, -List.any_eq_false, updV, den, U.den, B.den, upd, condB, toL_list, toL_agg, toL_tup, toL_ptr, toL_fn, toI_int, toB_bool, AStore.toL, AStore.fold, ANode.toL, AAlc.toL, AJob.toL, AGrp.toL, AEvl.toL, ARes.toL, ARes.eta, encL_toL, hRefJob, h1', hn0, hCopy, hlt, hge, hR, hPre2, stop_fold s nj j hlt, hDiff, hDiffPre, hrt, hdl, hLives]
  have hal := hs.Allocs.1.1
  refine LoopOk.intro (fun xs => ∃ n : Nat, xs = [.bool false, .int .i64 (((s.Allocs.take n).filter (runs job)).length : Int), .int .i64 n] ∧ n ≤ s.Allocs.length) (FM s.Allocs 2) ⟨0, by simp, Nat.zero_le _⟩ ?_
  rintro xs hxs ⟨n, rfl, hle⟩
  have hfl : ((s.Allocs.take n).filter (runs job)).length ≤ n := filter_take_le hle
  rcases hz : s.Allocs[n]? with _ | a
  · have hge3 := ge_none hz
    have hn3 : ¬ ((n : Int) < s.Allocs.length) := by omega
    have he : s.Allocs.take n = s.Allocs := List.take_of_length_le hge3
    simp [-List.any_eq_true, -List.any_eq_false, updV, den, U.den, B.den, upd, condB, toL_list, toL_agg, toL_tup, toL_ptr, toL_fn, toI_int, toB_bool, AStore.toL, AStore.fold, ANode.toL, AAlc.toL, AJob.toL, AGrp.toL, AEvl.toL, ARes.toL, ARes.eta, encL_toL, hn3, hge3, he, ints_len, encL]
  · obtain ⟨hlt3, hge3⟩ := List.getElem?_eq_some_iff.1 hz
    have hw3 := next64 hal hlt3
    have hft := filter_take (f := runs job) hz
    have hwn : IntKind.i64.wrap ((((s.Allocs.take n).filter (runs job)).length : Int) + 1) = (((s.Allocs.take n).filter (runs job)).length : Int) + 1 := wrap64 (by omega) (by omega)
    simp [-List.any_eq_true, -List.any_eq_false, updV, den, U.den, B.den, upd, condB, toL_list, toL_agg, toL_tup, toL_ptr, toL_fn, toI_int, toB_bool, AStore.toL, AStore.fold, ANode.toL, AAlc.toL, AJob.toL, AGrp.toL, AEvl.toL, ARes.toL, ARes.eta, encL_toL, AAlc.toL, hlt3, hge3, hw3, ints_toL, Nat.not_le.2 hlt3, hwn]
    have hm : s.Allocs.length - (((n + 1 : Nat) : Int)).toNat < s.Allocs.length - ((n : Nat) : Int).toNat := by omega
    refine ⟨fun g1 g2 g3 => ?_, fun hc => ?_⟩
    · have hr : runs job a = true := by simp [runs, g1, g2, g3]
      have hat := filter_at hz hr
      obtain ⟨hlt4, _⟩ := List.getElem?_eq_some_iff.1 hat
      rw [if_pos hr] at hft
      refine ⟨⟨hlt4, by rw [hat]; rfl⟩, fun _ _ => ⟨⟨n + 1, ⟨by rw [hft]; simp, by simp⟩, hlt3⟩, hm⟩⟩
    · have hr : runs job a = false := by
        by_cases g1 : a.Job = job
        · by_cases g2 : a.State < 3
          · simp [runs, hc g1 g2]
          · simp [runs]; omega
        · simp [runs, g1]
      rw [hr] at hft
      simp only [Bool.false_eq_true, if_false, List.append_nil] at hft
      exact ⟨⟨n + 1, ⟨by rw [hft], by simp⟩, hlt3⟩, hm⟩
theorem con6 : Con Try.prog pre phi tb6 := con_cons c6 con15

end Go.Proofs.Ytippnelhkdjknaa
