/-
  What each function of this seat computes, and that it keeps to it (B).
-/
import Derived.Test.YtippnelhkdjknaaCE
set_option linter.unusedSimpArgs false
set_option linter.unusedVariables false
namespace Go.Proofs.Ytippnelhkdjknaa
open Go Go.Eng Go.Proofs

theorem c25 : PureFn Try.prog 25 s25 (pre 25) (phi 25) := by
  refine pureFn_auto (given := []) mix con16 Try.func25 (by kernel_rfl) (v := vc25) (by kernel_rfl) ?_
  intro ds h hp
  obtain ⟨_, _, rfl, gl, _, _, rfl, gb, rfl⟩ := h
  obtain ⟨l, rfl, hl, hkl⟩ := intsD gl
  obtain ⟨b, rfl, hb⟩ := has_int.1 gb
  rw [inK64] at hb

  have hR : phi 25 [.list (l.map (D.int .i64)), .int .i64 b] = .bool (decide (b ∈ l)) := by simp [phi, intsOf_list, toI_int]
  simp [vc25, vh_obl, vh_call, vh_room, vh_branch, vh_loop, vh_again, vh_ret, vh_any, vh_hav, vh_range, updV, den, U.den, B.den, upd, condB, toL_list, toL_agg, toL_tup, toL_ptr, toL_fn, toI_int, toB_bool, List.getElem?_map, Option.map_some, Option.getD_some, List.length_map, pre, hR]
  refine LoopOk.intro (fun xs => ∃ n : Nat, xs = [.bool false, .int .i64 n] ∧ n ≤ l.length ∧ ∀ y ∈ l.take n, y ≠ b) (fun xs => l.length - (I (.list xs) 1).toNat) ⟨0, rfl, Nat.zero_le _, by simp⟩ ?_
  intro xs hxs hJ
  obtain ⟨n, rfl, hle, hno⟩ := hJ
  clear hxs
  rcases hx : l[n]? with _ | x
  · have hge := ge_none hx
    have hlt : ¬ ((n : Int) < l.length) := by omega
    have e : n = l.length := by omega
    subst e
    rw [List.take_length] at hno
    have : b ∉ l := fun h => hno b h rfl
    simp [toI_int, this]
  · have hlt := lt_some hx
    have hlt' : (n : Int) < l.length := by omega
    have hxm := List.mem_of_getElem? hx
    have hw1 : IntKind.wrap .i64 ((n : Int) + 1) = (n : Int) + 1 := wrap64 (by omega) (by omega)
    have ht : l.take (n + 1) = l.take n ++ [x] := by rw [List.take_add_one, hx, Option.toList_some]
    simp [toI_int, hx, hlt', hw1, Nat.not_le.2 hlt]
    refine ⟨fun h => h ▸ hxm, fun h => ⟨⟨n + 1, by simp, hlt, ?_⟩, ?_⟩⟩
    · intro y hy
      rw [ht] at hy
      rcases List.mem_append.1 hy with hy | hy
      · exact hno y hy
      · rw [List.mem_singleton] at hy; rw [hy]; exact h
    · show l.length - ((n : Int) + 1).toNat < l.length - (n : Int).toNat
      omega
theorem con25 : Con Try.prog pre phi tb25 := con_cons c25 con16

theorem c36 : PureFn Try.prog 36 s36 (pre 36) (phi 36) := by
  refine pureFn_auto (given := []) mix con25 Try.func36 (by kernel_rfl) (v := vc36) (by kernel_rfl) ?_
  intro ds h hp
  obtain ⟨_, _, rfl, ga, _, _, rfl, ⟨_, rfl, gj⟩, _, _, rfl, ⟨_, rfl, gp⟩, rfl⟩ := h
  obtain ⟨x, rfl, hx⟩ := AAlc.cases ga
  obtain ⟨j, rfl, hj⟩ := job_cells gj
  obtain ⟨p, rfl⟩ := slot_cells gp
  have hR : phi 36 [x.enc, .ptr j.enc.toL, .ptr (slotE p).toL] = .bool (isDone j p x) := by
    show D.bool (isDone (AJob.dec (.ptr j.enc.toL)) (slotD (.ptr (slotE p).toL)) (AAlc.dec x.enc)) = _
    rw [job_ptr, slot_ptr, AAlc.dec_enc]
  simp only [vc36, vh_obl, vh_call, vh_room, vh_branch, vh_loop, vh_again, vh_ret, vh_any, vh_hav, vh_range, pre, implies_true, true_and]
  rw [hR]
  simp [updV, den, U.den, B.den, upd, condB, toL_list, toL_agg, toL_tup, toL_ptr, toL_fn, toI_int, toB_bool, AAlc.toL, AJob.toL, slotE_toL, isDone]
theorem con36 : Con Try.prog pre phi tb36 := con_cons c36 con25

theorem c38 : PureFn Try.prog 38 s38 (pre 38) (phi 38) := by
  refine pureFn_auto (given := []) mix con36 Try.func38 (by kernel_rfl) (v := vc38) (by kernel_rfl) ?_
  intro ds h hp
  obtain ⟨_, _, rfl, gl, _, _, rfl, ⟨cap, rfl, hcap⟩, rfl⟩ := h
  obtain ⟨l, rfl, hl, hg⟩ := AAlc.cases_l gl
  obtain ⟨_, _, rfl, ⟨_, rfl, gj⟩, _, _, rfl, ⟨_, rfl, gp⟩, rfl⟩ := hcap
  obtain ⟨j, rfl, hj⟩ := job_cells gj
  obtain ⟨p, rfl⟩ := slot_cells gp
  have hR : phi 38 [encL AAlc.enc l, .fn 36 [.ptr j.enc.toL, .ptr (slotE p).toL]] = .int .i64 (findF (isDone j p) l 0) := by
    show D.int .i64 (findF (isDone (AJob.dec (.ptr j.enc.toL)) (slotD (.ptr (slotE p).toL))) (decL AAlc.dec (encL AAlc.enc l)) 0) = _
    rw [job_ptr, slot_ptr, AAlc.decl]
  have hC : ∀ x : AAlc, phi 36 [x.enc, .ptr j.enc.toL, .ptr (slotE p).toL] = .bool (isDone j p x) := by
    intro x
    show D.bool (isDone (AJob.dec (.ptr j.enc.toL)) (slotD (.ptr (slotE p).toL)) (AAlc.dec x.enc)) = _
    rw [job_ptr, slot_ptr, AAlc.dec_enc]
  simp only [vc38, vh_obl, vh_call, vh_room, vh_branch, vh_loop, vh_again, vh_ret, vh_any, vh_hav, vh_range, pre, implies_true, true_and, forall_eq]
  rw [hR]
  refine LoopOk.intro (FJ (isDone j p) l 1) (FM l 1) (FJ.start _ _ rfl) ?_
  intro xs hxs hJ
  obtain ⟨_, _, rfl, ⟨z, rfl, _⟩, _, _, rfl, ⟨i, rfl, _⟩, rfl⟩ := hxs
  obtain ⟨n, hn, hle, hf⟩ := hJ
  obtain rfl : i = n := hn
  rcases hx : l[n]? with _ | x
  · have hge := ge_none hx
    have hd := FJ.done hx hf
    simp [updV, den, U.den, B.den, upd, condB, toL_list, toL_agg, toL_tup, toL_ptr, toL_fn, toI_int, toB_bool, encL_toL, hd]
    try omega
  · obtain ⟨hlt, hge⟩ := List.getElem?_eq_some_iff.1 hx
    have hw := next64 hl.1 hlt
    simp [updV, den, U.den, B.den, upd, condB, toL_list, toL_agg, toL_tup, toL_ptr, toL_fn, toI_int, toB_bool, encL_toL, hge, hlt, hC, hw]
    exact ⟨fun hp => (FJ.hit hx hf (by simpa using hp)).symm, fun hp => FJ.next hx hf (by simpa using hp) rfl rfl⟩
theorem con38 : Con Try.prog pre phi tb38 := con_cons c38 con36

theorem c35 : PureFn Try.prog 35 s35 (pre 35) (phi 35) := by
  refine pureFn_auto (given := []) mix con38 Try.func35 (by kernel_rfl) (v := vc35) (by kernel_rfl) ?_
  intro ds h hp
  obtain ⟨_, _, rfl, gl, _, _, rfl, ⟨cap, rfl, hcap⟩, rfl⟩ := h
  simp only [vc35, vh_obl, vh_call, vh_room, vh_branch, vh_loop, vh_again, vh_ret, vh_any, vh_hav, vh_range, pre, implies_true, true_and, forall_eq]
  show _ = D.bool ((decL AAlc.dec _).any _)
  rw [← findF_any]
  rfl
theorem con35 : Con Try.prog pre phi tb35 := con_cons c35 con38

theorem c23 : PureFn Try.prog 23 s23 (pre 23) (phi 23) := by
  refine pureFn_auto (given := []) mix con35 Try.func23 (by kernel_rfl) (v := vc23) (by kernel_rfl) ?_
  intro ds h hp
  obtain ⟨_, _, rfl, gs, _, _, rfl, gj, _, _, rfl, gp, rfl⟩ := h
  obtain ⟨s, rfl, hs⟩ := AStore.cases gs
  obtain ⟨j, rfl, hj⟩ := AJob.cases gj
  obtain ⟨p, rfl, _⟩ := slot_cases gp
  have hR : phi 23 [s.enc, j.enc, slotE p] = .bool (doneB s j p) := by
    show D.bool (doneB (AStore.dec s.enc) (AJob.dec j.enc) (slotD (slotE p))) = _
    rw [AStore.dec_enc, AJob.dec_enc, slotD_E]
  have hC : phi 35 [encL AAlc.enc s.Allocs, .fn 36 [.ptr [.int .i64 j.ID, .int .i64 j.Kind, .int .i64 j.Priority, .int .i64 j.Parallel, encL AGrp.enc j.Groups, .int .i64 j.Version, .bool j.Stopped], .ptr [.int .i64 p.1, .int .i64 p.2]]] = .bool (s.Allocs.any (isDone j p)) := by
    show D.bool ((decL AAlc.dec (encL AAlc.enc s.Allocs)).any (isDone (AJob.dec (.ptr j.enc.toL)) (slotD (.ptr (slotE p).toL)))) = _
    rw [job_ptr, slot_ptr, AAlc.decl]
  simp only [vc23, vh_obl, vh_call, vh_room, vh_branch, vh_loop, vh_again, vh_ret, vh_any, vh_hav, vh_range, pre, implies_true, true_and, forall_eq]
  rw [hR]
  simp [updV, den, U.den, B.den, upd, condB, toL_list, toL_agg, toL_tup, toL_ptr, toL_fn, toI_int, toB_bool, AStore.toL, AJob.toL, slotE_toL, hC, doneB]
theorem con23 : Con Try.prog pre phi tb23 := con_cons c23 con35

theorem c30 : PureFn Try.prog 30 s30 (pre 30) (phi 30) := by
  refine pureFn_auto (given := []) mix con23 Try.func30 (by kernel_rfl) (v := vc30) (by kernel_rfl) ?_
  intro ds h hp
  obtain ⟨_, _, rfl, gs, _, _, rfl, gj, _, _, rfl, ⟨g, rfl, hg⟩, rfl⟩ := h
  obtain ⟨s, rfl, hs⟩ := AStore.cases gs
  obtain ⟨j, rfl, hj⟩ := AJob.cases gj
  have hp' : 0 ≤ g ∧ g.toNat < j.Groups.length := by simpa [pre, AJob.dec_enc, toI_int] using hp
  obtain ⟨m, rfl⟩ : ∃ m : Nat, g = m := ⟨g.toNat, by omega⟩
  obtain ⟨x, hx⟩ : ∃ x, j.Groups[m]? = some x := ⟨_, List.getElem?_eq_getElem (by omega)⟩
  obtain ⟨hlt, hge⟩ := List.getElem?_eq_some_iff.1 hx
  have hR : phi 30 [s.enc, j.enc, .int .i64 m] = ints (idxL s j x) := by
    show D.list ((idxL (AStore.dec s.enc) (AJob.dec j.enc) ((AJob.dec j.enc).Groups.getD m ⟨0, 0, 0⟩)).map (D.int .i64)) = _
    rw [AStore.dec_enc, AJob.dec_enc]; simp [hx]; rfl
  have hcl := cntG_le x
  simp only [vc30, vh_obl, vh_call, vh_room, vh_branch, vh_loop, vh_again, vh_ret, vh_any, vh_hav, vh_range, pre, implies_true, true_and, forall_eq]
  rw [hR]
  by_cases hk : j.Kind = 3
  · simp [updV, den, U.den, B.den, upd, condB, toL_list, toL_agg, toL_tup, toL_ptr, toL_fn, toI_int, toB_bool, AStore.toL, AJob.toL, encL_toL, hk]
    refine LoopOk.intro (fun xs => ∃ (n : Nat) (o : List Int), xs = [ints o, .int .i64 n] ∧ n ≤ s.Nodes.length ∧ o.length ≤ n ∧ nodesF (s.Nodes.drop n) o = nodesF s.Nodes []) (FM s.Nodes 1) ⟨0, [], rfl, Nat.zero_le _, Nat.zero_le _, rfl⟩ ?_
    rintro xs hxs ⟨n, o, rfl, hle, hol, hf⟩
    rcases hy : s.Nodes[n]? with _ | y
    · have hge' := ge_none hy
      rw [drop_none hy, nodesF] at hf
      simp [updV, den, U.den, B.den, upd, condB, toL_list, toL_agg, toL_tup, toL_ptr, toL_fn, toI_int, toB_bool, hge', Nat.not_lt.2 hge', idxL, hk, hf]
    · obtain ⟨hlt', hge'⟩ := List.getElem?_eq_some_iff.1 hy
      have hw := next64 hs.Nodes.1.1 hlt'
      have h48 : s.Nodes.length * 56 ≤ 140737488355328 := hs.Nodes.1.2
      have hml : s.Nodes.length ≤ maxLen := hs.Nodes.1.1
      have hC : phi 37 [ints o, .int .i64 y.ID] = .bool (decide (y.ID ∈ o)) := by simp [phi, intsOf_ints, toI_int]
      rw [drop_some hy, nodesF] at hf
      simp [updV, den, U.den, B.den, upd, condB, toL_list, toL_agg, toL_tup, toL_ptr, toL_fn, toI_int, toB_bool, ANode.toL, ints_toL, hge', hlt', hC, hw, snoc_int]
      have hlast : s.Nodes.length - ((n : Int) + 1).toNat < s.Nodes.length - (n : Int).toNat := by omega
      refine ⟨⟨fun h1 h2 h3 => ?_, fun h1 => ?_⟩, fun h => absurd hlt' (Nat.not_lt.2 h)⟩
      · rw [if_pos (by simp [h1, h2, h3])] at hf
        exact ⟨⟨by omega, by omega⟩, ⟨n + 1, o ++ [y.ID], ⟨rfl, by simp⟩, hlt', by simp; omega, hf⟩, hlast⟩
      · rw [if_neg (by simpa using h1)] at hf
        exact ⟨⟨n + 1, o, ⟨rfl, by simp⟩, hlt', by omega, hf⟩, hlast⟩
  · simp [updV, den, U.den, B.den, upd, condB, toL_list, toL_agg, toL_tup, toL_ptr, toL_fn, toI_int, toB_bool, AStore.toL, AJob.toL, encL_toL, hk, hlt, hge, AGrp.toL, cntG_eq]
    refine LoopOk.intro (fun xs => ∃ k : Nat, xs = [ints (rangeI k), .int .i64 k] ∧ (k : Int) ≤ cntG x) (NM (cntG x) 1) ⟨0, rfl, by omega⟩ ?_
    rintro xs hxs ⟨k, rfl, hkc⟩
    have hw : IntKind.i64.wrap ((k : Int) + 1) = (k : Int) + 1 := wrap64 (by omega) (by omega)
    by_cases hk2 : (k : Int) < cntG x
    · simp [updV, den, U.den, B.den, upd, condB, toL_list, toL_agg, toL_tup, toL_ptr, toL_fn, toI_int, toB_bool, ints_toL, hk2, hw, snoc_int, rangeI_length, cntG_eq, ← rangeI_succ]
      have h5 : 5 ≤ maxLen := by decide
      refine ⟨⟨⟨by omega, by omega⟩, ⟨k + 1, ⟨rfl, by simp⟩, by omega⟩, ?_⟩, fun h => by omega⟩
      show (cntG x - ((k : Int) + 1)).toNat < (cntG x - (k : Int)).toNat
      omega
    · have : k = (cntG x).toNat := by omega
      have hi : ints (idxL s j x) = ints (rangeI k) := by simp [idxL, hk, ← this]
      simp [updV, den, U.den, B.den, upd, condB, toL_list, toL_agg, toL_tup, toL_ptr, toL_fn, toI_int, toB_bool, hk2, hi]
theorem con30 : Con Try.prog pre phi tb30 := con_cons c30 con23

theorem c18 : PureFn Try.prog 18 s18 (pre 18) (phi 18) := by
  refine pureFn_auto (given := []) mix con30 Try.func18 (by kernel_rfl) (v := vc18) (by kernel_rfl) ?_
  intro ds h hp
  obtain ⟨_, _, rfl, gs, _, _, rfl, gj, rfl⟩ := h
  obtain ⟨s, rfl, hs⟩ := AStore.cases gs
  obtain ⟨j, rfl, hj⟩ := AJob.cases gj
  simp [vc18, vh_obl, vh_call, vh_room, vh_branch, vh_loop, vh_again, vh_ret, vh_any, vh_hav, vh_range, pre, updV, den, U.den, B.den, upd, condB, toL_list, toL_agg, toL_tup, toL_ptr, toL_fn, toI_int, toB_bool, AStore.toL, AJob.toL]
  simp [phi, AStore.toL, AJob.toL]
theorem con18 : Con Try.prog pre phi tb18 := con_cons c18 con30

end Go.Proofs.Ytippnelhkdjknaa
