/-
  What each function of this seat computes, and that it keeps to it (A).
-/
import Derived.Test.YtippnelhkdjknaaF
set_option linter.unusedSimpArgs false
set_option linter.unusedVariables false
namespace Go.Proofs.Ytippnelhkdjknaa
open Go Go.Eng Go.Proofs

theorem c19 : PureFn Try.prog 19 s19 (pre 19) (phi 19) := by
  refine pureFn_auto (given := []) mix (con_nil (Φ := phi) (Pre := pre)) Try.func19 (by kernel_rfl) (v := vc19) (by kernel_rfl) ?_
  intro ds h hp
  obtain ⟨x, _, rfl, gx, rfl⟩ := h
  obtain ⟨x, rfl, hx⟩ := AAlc.cases gx
  have hR : phi 19 [x.enc] = .bool (over x) := rfl
  simp [vc19, vh_obl, vh_call, vh_room, vh_branch, vh_loop, vh_again, vh_ret, vh_any, vh_hav, vh_range, updV, den, U.den, B.den, upd, condB, toL_list, toL_agg, toL_tup, toL_ptr, toL_fn, toI_int, toB_bool, hR, AAlc.toL, over]
theorem con19 : Con Try.prog pre phi tb19 := con_cons c19 con_nil

theorem c34 : PureFn Try.prog 34 s34 (pre 34) (phi 34) := by
  refine pureFn_auto (given := []) mix con19 Try.func34 (by kernel_rfl) (v := vc34) (by kernel_rfl) ?_
  intro ds h hp
  obtain ⟨x, _, rfl, gx, _, _, rfl, ⟨_, rfl, _, _, rfl, ⟨j, rfl, _⟩, rfl⟩, _, _, rfl, ⟨_, rfl, _, _, rfl, ⟨g, rfl, _⟩, rfl⟩, _, _, rfl, ⟨_, rfl, _, _, rfl, ⟨k, rfl, _⟩, rfl⟩, rfl⟩ := h
  obtain ⟨x, rfl, hx⟩ := AAlc.cases gx
  have hR : phi 34 [x.enc, .ptr [.int .i64 j], .ptr [.int .i64 g], .ptr [.int .i64 k]] = .bool (isSlot j g k x) := rfl
  have ho : phi 19 [x.enc] = .bool (over x) := rfl
  have ho2 := ho
  rw [AAlc.enc] at ho2
  simp [vc34, vh_obl, vh_call, vh_room, vh_branch, vh_loop, vh_again, vh_ret, vh_any, vh_hav, vh_range, pre, updV, den, U.den, B.den, upd, condB, toL_list, toL_agg, toL_tup, toL_ptr, toL_fn, toI_int, toB_bool, hR, AAlc.toL, ho, ho2, isSlot]
theorem con34 : Con Try.prog pre phi tb34 := con_cons c34 con19

theorem cslotAt : PureFn Try.prog 33 sslotAt (pre 33) (phi 33) := by
  refine pureFn_auto (given := []) mix con34 Try.func33 (by kernel_rfl) (v := vcslotAt) (by kernel_rfl) ?_
  intro ds h hp
  obtain ⟨_, _, rfl, gl, _, _, rfl, ⟨cap, rfl, hcap⟩, rfl⟩ := h
  obtain ⟨l, rfl, hl, hg⟩ := AAlc.cases_l gl
  obtain ⟨_, _, rfl, ⟨_, rfl, _, _, rfl, ⟨j, rfl, _⟩, rfl⟩, _, _, rfl, ⟨_, rfl, _, _, rfl, ⟨g, rfl, _⟩, rfl⟩, _, _, rfl, ⟨_, rfl, _, _, rfl, ⟨k, rfl, _⟩, rfl⟩, rfl⟩ := hcap
  simp only [vcslotAt, vh_obl, vh_call, vh_room, vh_branch, vh_loop, vh_again, vh_ret, vh_any, vh_hav, vh_range, pre, implies_true, true_and, forall_eq]
  refine LoopOk.intro (FJ (isSlot j g k) l 1) (FM l 1) (FJ.start _ _ rfl) ?_
  intro xs hxs hJ
  obtain ⟨_, _, rfl, ⟨z, rfl, _⟩, _, _, rfl, ⟨i, rfl, _⟩, rfl⟩ := hxs
  obtain ⟨n, hn, hle, hf⟩ := hJ
  obtain rfl : i = n := hn
  have hR : phi 33 [encL AAlc.enc l, .fn 34 [.ptr [.int .i64 j], .ptr [.int .i64 g], .ptr [.int .i64 k]]] = .int .i64 (findF (isSlot j g k) l 0) := by simp [phi, AAlc.decl, fnId, I, updV, den, U.den, B.den, upd, condB, toL_list, toL_agg, toL_tup, toL_ptr, toL_fn, toI_int, toB_bool]
  have hC : ∀ x : AAlc, phi 34 [x.enc, .ptr [.int .i64 j], .ptr [.int .i64 g], .ptr [.int .i64 k]] = .bool (isSlot j g k x) := fun _ => rfl
  rcases hx : l[n]? with _ | x
  · have hge := ge_none hx
    have hd := FJ.done hx hf
    simp [updV, den, U.den, B.den, upd, condB, toL_list, toL_agg, toL_tup, toL_ptr, toL_fn, toI_int, toB_bool, encL_toL, hR, hd]
    try omega
  · obtain ⟨hlt, hge⟩ := List.getElem?_eq_some_iff.1 hx
    have hw := next64 hl.1 hlt
    simp [updV, den, U.den, B.den, upd, condB, toL_list, toL_agg, toL_tup, toL_ptr, toL_fn, toI_int, toB_bool, encL_toL, hR, hge, hlt, hC, hw]
    exact ⟨fun hp => (FJ.hit hx hf hp).symm, fun hp => FJ.next hx hf hp rfl rfl⟩
theorem conslotAt : Con Try.prog pre phi tbslotAt := con_cons cslotAt con34

theorem c22 : PureFn Try.prog 22 s22 (pre 22) (phi 22) := by
  refine pureFn_auto (given := []) mix conslotAt Try.func22 (by kernel_rfl) (v := vc22) (by kernel_rfl) ?_
  intro ds h hp
  obtain ⟨x, _, rfl, gx, _, _, rfl, ⟨j, rfl, _⟩, _, _, rfl, ⟨g, rfl, _⟩, _, _, rfl, ⟨k, rfl, _⟩, rfl⟩ := h
  obtain ⟨s, rfl, hs⟩ := AStore.cases gx
  have hR : phi 22 [s.enc, .int .i64 j, .int .i64 g, .int .i64 k] = .int .i64 (findF (isSlot j g k) s.Allocs 0) := by simp [phi, AStore.dec_enc, updV, den, U.den, B.den, upd, condB, toL_list, toL_agg, toL_tup, toL_ptr, toL_fn, toI_int, toB_bool, slotI]
  have hC : phi 33 [encL AAlc.enc s.Allocs, .fn 34 [.ptr [.int .i64 j], .ptr [.int .i64 g], .ptr [.int .i64 k]]] = .int .i64 (findF (isSlot j g k) s.Allocs 0) := by simp [phi, AAlc.decl, fnId, I, updV, den, U.den, B.den, upd, condB, toL_list, toL_agg, toL_tup, toL_ptr, toL_fn, toI_int, toB_bool]
  simp [vc22, vh_obl, vh_call, vh_room, vh_branch, vh_loop, vh_again, vh_ret, vh_any, vh_hav, vh_range, pre, updV, den, U.den, B.den, upd, condB, toL_list, toL_agg, toL_tup, toL_ptr, toL_fn, toI_int, toB_bool, AStore.toL, hR, hC]
theorem con22 : Con Try.prog pre phi tb22 := con_cons c22 conslotAt

theorem c9 : PureFn Try.prog 9 s9 (pre 9) (phi 9) := by
  refine pureFn_auto (given := []) mix con22 Try.func9 (by kernel_rfl) (v := vc9) (by kernel_rfl) ?_
  intro ds h hp
  obtain ⟨x, _, rfl, gx, _, _, rfl, ⟨j, rfl, _⟩, _, _, rfl, ⟨g, rfl, _⟩, _, _, rfl, ⟨k, rfl, _⟩, rfl⟩ := h
  obtain ⟨s, rfl, hs⟩ := AStore.cases gx
  have hR : phi 9 [s.enc, .int .i64 j, .int .i64 g, .int .i64 k] = .int .i64 (findF (isSlot j g k) s.Allocs 0) := by simp [phi, AStore.dec_enc, updV, den, U.den, B.den, upd, condB, toL_list, toL_agg, toL_tup, toL_ptr, toL_fn, toI_int, toB_bool, slotI]
  simp only [vc9, vh_obl, vh_call, vh_room, vh_branch, vh_loop, vh_again, vh_ret, vh_any, vh_hav, vh_range, pre, implies_true, true_and, forall_eq]
  refine LoopOk.intro (FJ (isSlot j g k) s.Allocs 1) (FM s.Allocs 1) (FJ.start _ _ rfl) ?_
  intro xs hxs hJ
  obtain ⟨_, _, rfl, ⟨z, rfl, _⟩, _, _, rfl, ⟨i, rfl, _⟩, rfl⟩ := hxs
  obtain ⟨n, hn, hle, hf⟩ := hJ
  obtain rfl : i = n := hn
  rcases hx : s.Allocs[n]? with _ | x
  · have hge := ge_none hx
    have hd := FJ.done hx hf
    simp [updV, den, U.den, B.den, upd, condB, toL_list, toL_agg, toL_tup, toL_ptr, toL_fn, toI_int, toB_bool, AStore.toL, encL_toL, hR, hd]
    try omega
  · obtain ⟨hlt, hge⟩ := List.getElem?_eq_some_iff.1 hx
    have hw := next64 hs.Allocs.1.1 hlt
    simp [updV, den, U.den, B.den, upd, condB, toL_list, toL_agg, toL_tup, toL_ptr, toL_fn, toI_int, toB_bool, AStore.toL, encL_toL, hR, hge, hlt, hw, AAlc.toL]
    refine ⟨fun h1 h2 h3 h4 => (FJ.hit hx hf ?_).symm, fun hp => FJ.next hx hf ?_ rfl rfl⟩
    · simp [isSlot, over, h1, h2, h3]; omega
    · cases hs : isSlot j g k x with
      | false => rfl
      | true =>
        simp [isSlot, over] at hs
        have := hp hs.1.1.1 hs.1.1.2 hs.1.2
        omega
theorem con9 : Con Try.prog pre phi tb9 := con_cons c9 con22

theorem c28 : PureFn Try.prog 28 s28 (pre 28) (phi 28) := by
  refine pureFn_auto (given := []) mix con9 Try.func28 (by kernel_rfl) (v := vc28) (by kernel_rfl) ?_
  intro ds h hp
  obtain ⟨x, _, rfl, gx, _, _, rfl, ⟨_, rfl, _, _, rfl, ⟨id, rfl, _⟩, rfl⟩, rfl⟩ := h
  obtain ⟨x, rfl, hx⟩ := AJob.cases gx
  have hR : phi 28 [x.enc, .ptr [.int .i64 id]] = .bool (x.ID == id) := by simp [phi, AJob.dec_enc, I, updV, den, U.den, B.den, upd, condB, toL_list, toL_agg, toL_tup, toL_ptr, toL_fn, toI_int, toB_bool]
  simp [vc28, vh_obl, vh_call, vh_room, vh_branch, vh_loop, vh_again, vh_ret, vh_any, vh_hav, vh_range, updV, den, U.den, B.den, upd, condB, toL_list, toL_agg, toL_tup, toL_ptr, toL_fn, toI_int, toB_bool, hR, AJob.toL]
theorem con28 : Con Try.prog pre phi tb28 := con_cons c28 con9

theorem catJob : PureFn Try.prog 27 satJob (pre 27) (phi 27) := by
  refine pureFn_auto (given := []) mix con28 Try.func27 (by kernel_rfl) (v := vcatJob) (by kernel_rfl) ?_
  intro ds h hp
  obtain ⟨_, _, rfl, gl, _, _, rfl, ⟨cap, rfl, hcap⟩, rfl⟩ := h
  obtain ⟨l, rfl, hl, hg⟩ := AJob.cases_l gl
  obtain ⟨_, _, rfl, ⟨_, rfl, _, _, rfl, ⟨id, rfl, _⟩, rfl⟩, rfl⟩ := hcap
  simp only [vcatJob, vh_obl, vh_call, vh_room, vh_branch, vh_loop, vh_again, vh_ret, vh_any, vh_hav, vh_range, pre, implies_true, true_and, forall_eq]
  refine LoopOk.intro (FJ (fun x => x.ID == id) l 1) (FM l 1) (FJ.start _ _ rfl) ?_
  intro xs hxs hJ
  obtain ⟨_, _, rfl, ⟨k, rfl, _⟩, _, _, rfl, ⟨i, rfl, _⟩, rfl⟩ := hxs
  obtain ⟨n, hn, hle, hf⟩ := hJ
  obtain rfl : i = n := hn
  have hR : phi 27 [encL AJob.enc l, .fn 28 [.ptr [.int .i64 id]]] = .int .i64 (findF (fun x => x.ID == id) l 0) := by simp [phi, AJob.decl, fnId, I, updV, den, U.den, B.den, upd, condB, toL_list, toL_agg, toL_tup, toL_ptr, toL_fn, toI_int, toB_bool]
  have hC : ∀ x : AJob, phi 28 [x.enc, .ptr [.int .i64 id]] = .bool (x.ID == id) := by intro x; simp [phi, AJob.dec_enc, I, updV, den, U.den, B.den, upd, condB, toL_list, toL_agg, toL_tup, toL_ptr, toL_fn, toI_int, toB_bool]
  rcases hx : l[n]? with _ | x
  · have hge := ge_none hx
    have hd := FJ.done hx hf
    simp [updV, den, U.den, B.den, upd, condB, toL_list, toL_agg, toL_tup, toL_ptr, toL_fn, toI_int, toB_bool, encL_toL, hR, hd]
    try omega
  · obtain ⟨hlt, hge⟩ := List.getElem?_eq_some_iff.1 hx
    have hw := next64 hl.1 hlt
    simp [updV, den, U.den, B.den, upd, condB, toL_list, toL_agg, toL_tup, toL_ptr, toL_fn, toI_int, toB_bool, encL_toL, hR, hge, hlt, hC, hw]
    exact ⟨fun hp => (FJ.hit hx hf (by simpa using hp)).symm, fun hp => FJ.next hx hf (by simpa using hp) rfl rfl⟩
theorem conatJob : Con Try.prog pre phi tbatJob := con_cons catJob con28

theorem c17 : PureFn Try.prog 17 s17 (pre 17) (phi 17) := by
  refine pureFn_auto (given := []) mix conatJob Try.func17 (by kernel_rfl) (v := vc17) (by kernel_rfl) ?_
  intro ds h hp
  obtain ⟨x, _, rfl, gx, _, _, rfl, ⟨id, rfl, _⟩, rfl⟩ := h
  obtain ⟨s, rfl, hs⟩ := AStore.cases gx
  have hR : phi 17 [s.enc, .int .i64 id] = .int .i64 (findF (fun x => x.ID == id) s.Jobs 0) := by simp [phi, AStore.dec_enc, updV, den, U.den, B.den, upd, condB, toL_list, toL_agg, toL_tup, toL_ptr, toL_fn, toI_int, toB_bool, jobI]
  have hC : phi 27 [encL AJob.enc s.Jobs, .fn 28 [.ptr [.int .i64 id]]] = .int .i64 (findF (fun x => x.ID == id) s.Jobs 0) := by simp [phi, AJob.decl, fnId, I, updV, den, U.den, B.den, upd, condB, toL_list, toL_agg, toL_tup, toL_ptr, toL_fn, toI_int, toB_bool]
  simp [vc17, vh_obl, vh_call, vh_room, vh_branch, vh_loop, vh_again, vh_ret, vh_any, vh_hav, vh_range, pre, updV, den, U.den, B.den, upd, condB, toL_list, toL_agg, toL_tup, toL_ptr, toL_fn, toI_int, toB_bool, AStore.toL, hR, hC]
theorem con17 : Con Try.prog pre phi tb17 := con_cons c17 conatJob

theorem c11 : PureFn Try.prog 11 s11 (pre 11) (phi 11) := by
  refine pureFn_auto (given := []) mix con17 Try.func11 (by kernel_rfl) (v := vc11) (by kernel_rfl) ?_
  intro ds h hp
  obtain ⟨x, _, rfl, gx, _, _, rfl, ⟨id, rfl, _⟩, rfl⟩ := h
  obtain ⟨s, rfl, hs⟩ := AStore.cases gx
  have hR : phi 11 [s.enc, .int .i64 id] = .int .i64 (findF (fun x => x.ID == id) s.Jobs 0) := by simp [phi, AStore.dec_enc, updV, den, U.den, B.den, upd, condB, toL_list, toL_agg, toL_tup, toL_ptr, toL_fn, toI_int, toB_bool, jobI]
  simp only [vc11, vh_obl, vh_call, vh_room, vh_branch, vh_loop, vh_again, vh_ret, vh_any, vh_hav, vh_range, pre, implies_true, true_and, forall_eq]
  refine LoopOk.intro (FJ (fun x => x.ID == id) s.Jobs 1) (FM s.Jobs 1) (FJ.start _ _ rfl) ?_
  intro xs hxs hJ
  obtain ⟨_, _, rfl, ⟨k, rfl, _⟩, _, _, rfl, ⟨i, rfl, _⟩, rfl⟩ := hxs
  obtain ⟨n, hn, hle, hf⟩ := hJ
  obtain rfl : i = n := hn
  rcases hx : s.Jobs[n]? with _ | x
  · have hge := ge_none hx
    have hd := FJ.done hx hf
    simp [updV, den, U.den, B.den, upd, condB, toL_list, toL_agg, toL_tup, toL_ptr, toL_fn, toI_int, toB_bool, AStore.toL, encL_toL, hR, hd]
    try omega
  · obtain ⟨hlt, hge⟩ := List.getElem?_eq_some_iff.1 hx
    have hw := next64 hs.Jobs.1.1 hlt
    simp [updV, den, U.den, B.den, upd, condB, toL_list, toL_agg, toL_tup, toL_ptr, toL_fn, toI_int, toB_bool, AStore.toL, encL_toL, hR, hge, hlt, hw, AJob.toL]
    exact ⟨fun hp => (FJ.hit hx hf (by simpa using hp)).symm, fun hp => FJ.next hx hf (by simpa using hp) rfl rfl⟩
theorem con11 : Con Try.prog pre phi tb11 := con_cons c11 con17

theorem c32 : PureFn Try.prog 32 s32 (pre 32) (phi 32) := by
  refine pureFn_auto (given := []) mix con11 Try.func32 (by kernel_rfl) (v := vc32) (by kernel_rfl) ?_
  intro ds h hp
  obtain ⟨x, _, rfl, gx, _, _, rfl, ⟨_, rfl, _, _, rfl, ⟨id, rfl, _⟩, rfl⟩, rfl⟩ := h
  obtain ⟨x, rfl, hx⟩ := ANode.cases gx
  have hR : phi 32 [x.enc, .ptr [.int .i64 id]] = .bool (x.ID == id) := by simp [phi, ANode.dec_enc, I, updV, den, U.den, B.den, upd, condB, toL_list, toL_agg, toL_tup, toL_ptr, toL_fn, toI_int, toB_bool]
  simp [vc32, vh_obl, vh_call, vh_room, vh_branch, vh_loop, vh_again, vh_ret, vh_any, vh_hav, vh_range, updV, den, U.den, B.den, upd, condB, toL_list, toL_agg, toL_tup, toL_ptr, toL_fn, toI_int, toB_bool, hR, ANode.toL]
theorem con32 : Con Try.prog pre phi tb32 := con_cons c32 con11

theorem catNode : PureFn Try.prog 31 satNode (pre 31) (phi 31) := by
  refine pureFn_auto (given := []) mix con32 Try.func31 (by kernel_rfl) (v := vcatNode) (by kernel_rfl) ?_
  intro ds h hp
  obtain ⟨_, _, rfl, gl, _, _, rfl, ⟨cap, rfl, hcap⟩, rfl⟩ := h
  obtain ⟨l, rfl, hl, hg⟩ := ANode.cases_l gl
  obtain ⟨_, _, rfl, ⟨_, rfl, _, _, rfl, ⟨id, rfl, _⟩, rfl⟩, rfl⟩ := hcap
  simp only [vcatNode, vh_obl, vh_call, vh_room, vh_branch, vh_loop, vh_again, vh_ret, vh_any, vh_hav, vh_range, pre, implies_true, true_and, forall_eq]
  refine LoopOk.intro (FJ (fun x => x.ID == id) l 1) (FM l 1) (FJ.start _ _ rfl) ?_
  intro xs hxs hJ
  obtain ⟨_, _, rfl, ⟨k, rfl, _⟩, _, _, rfl, ⟨i, rfl, _⟩, rfl⟩ := hxs
  obtain ⟨n, hn, hle, hf⟩ := hJ
  obtain rfl : i = n := hn
  have hR : phi 31 [encL ANode.enc l, .fn 32 [.ptr [.int .i64 id]]] = .int .i64 (findF (fun x => x.ID == id) l 0) := by simp [phi, ANode.decl, fnId, I, updV, den, U.den, B.den, upd, condB, toL_list, toL_agg, toL_tup, toL_ptr, toL_fn, toI_int, toB_bool]
  have hC : ∀ x : ANode, phi 32 [x.enc, .ptr [.int .i64 id]] = .bool (x.ID == id) := by intro x; simp [phi, ANode.dec_enc, I, updV, den, U.den, B.den, upd, condB, toL_list, toL_agg, toL_tup, toL_ptr, toL_fn, toI_int, toB_bool]
  rcases hx : l[n]? with _ | x
  · have hge := ge_none hx
    have hd := FJ.done hx hf
    simp [updV, den, U.den, B.den, upd, condB, toL_list, toL_agg, toL_tup, toL_ptr, toL_fn, toI_int, toB_bool, encL_toL, hR, hd]
    try omega
  · obtain ⟨hlt, hge⟩ := List.getElem?_eq_some_iff.1 hx
    have hw := next64 hl.1 hlt
    simp [updV, den, U.den, B.den, upd, condB, toL_list, toL_agg, toL_tup, toL_ptr, toL_fn, toI_int, toB_bool, encL_toL, hR, hge, hlt, hC, hw]
    exact ⟨fun hp => (FJ.hit hx hf (by simpa using hp)).symm, fun hp => FJ.next hx hf (by simpa using hp) rfl rfl⟩
theorem conatNode : Con Try.prog pre phi tbatNode := con_cons catNode con32

theorem c20 : PureFn Try.prog 20 s20 (pre 20) (phi 20) := by
  refine pureFn_auto (given := []) mix conatNode Try.func20 (by kernel_rfl) (v := vc20) (by kernel_rfl) ?_
  intro ds h hp
  obtain ⟨x, _, rfl, gx, _, _, rfl, ⟨id, rfl, _⟩, rfl⟩ := h
  obtain ⟨s, rfl, hs⟩ := AStore.cases gx
  have hR : phi 20 [s.enc, .int .i64 id] = .int .i64 (findF (fun x => x.ID == id) s.Nodes 0) := by simp [phi, AStore.dec_enc, updV, den, U.den, B.den, upd, condB, toL_list, toL_agg, toL_tup, toL_ptr, toL_fn, toI_int, toB_bool, nodeI]
  have hC : phi 31 [encL ANode.enc s.Nodes, .fn 32 [.ptr [.int .i64 id]]] = .int .i64 (findF (fun x => x.ID == id) s.Nodes 0) := by simp [phi, ANode.decl, fnId, I, updV, den, U.den, B.den, upd, condB, toL_list, toL_agg, toL_tup, toL_ptr, toL_fn, toI_int, toB_bool]
  simp [vc20, vh_obl, vh_call, vh_room, vh_branch, vh_loop, vh_again, vh_ret, vh_any, vh_hav, vh_range, pre, updV, den, U.den, B.den, upd, condB, toL_list, toL_agg, toL_tup, toL_ptr, toL_fn, toI_int, toB_bool, AStore.toL, hR, hC]
theorem con20 : Con Try.prog pre phi tb20 := con_cons c20 conatNode

theorem c13 : PureFn Try.prog 13 s13 (pre 13) (phi 13) := by
  refine pureFn_auto (given := []) mix con20 Try.func13 (by kernel_rfl) (v := vc13) (by kernel_rfl) ?_
  intro ds h hp
  obtain ⟨x, _, rfl, gx, _, _, rfl, ⟨id, rfl, _⟩, rfl⟩ := h
  obtain ⟨s, rfl, hs⟩ := AStore.cases gx
  have hR : phi 13 [s.enc, .int .i64 id] = .int .i64 (findF (fun x => x.ID == id) s.Nodes 0) := by simp [phi, AStore.dec_enc, updV, den, U.den, B.den, upd, condB, toL_list, toL_agg, toL_tup, toL_ptr, toL_fn, toI_int, toB_bool, nodeI]
  simp only [vc13, vh_obl, vh_call, vh_room, vh_branch, vh_loop, vh_again, vh_ret, vh_any, vh_hav, vh_range, pre, implies_true, true_and, forall_eq]
  refine LoopOk.intro (FJ (fun x => x.ID == id) s.Nodes 1) (FM s.Nodes 1) (FJ.start _ _ rfl) ?_
  intro xs hxs hJ
  obtain ⟨_, _, rfl, ⟨k, rfl, _⟩, _, _, rfl, ⟨i, rfl, _⟩, rfl⟩ := hxs
  obtain ⟨n, hn, hle, hf⟩ := hJ
  obtain rfl : i = n := hn
  rcases hx : s.Nodes[n]? with _ | x
  · have hge := ge_none hx
    have hd := FJ.done hx hf
    simp [updV, den, U.den, B.den, upd, condB, toL_list, toL_agg, toL_tup, toL_ptr, toL_fn, toI_int, toB_bool, AStore.toL, encL_toL, hR, hd]
    try omega
  · obtain ⟨hlt, hge⟩ := List.getElem?_eq_some_iff.1 hx
    have hw := next64 hs.Nodes.1.1 hlt
    simp [updV, den, U.den, B.den, upd, condB, toL_list, toL_agg, toL_tup, toL_ptr, toL_fn, toI_int, toB_bool, AStore.toL, encL_toL, hR, hge, hlt, hw, ANode.toL]
    exact ⟨fun hp => (FJ.hit hx hf (by simpa using hp)).symm, fun hp => FJ.next hx hf (by simpa using hp) rfl rfl⟩
theorem con13 : Con Try.prog pre phi tb13 := con_cons c13 con20

theorem c14 : PureFn Try.prog 14 s14 (pre 14) (phi 14) := by
  refine pureFn_auto (given := []) mix con13 Try.func14 (by kernel_rfl) (v := vc14) (by kernel_rfl) ?_
  intro ds h hp
  obtain ⟨x, _, rfl, gx, _, _, rfl, ⟨id, rfl, _⟩, rfl⟩ := h
  obtain ⟨s, rfl, hs⟩ := AStore.cases gx
  have hR : phi 14 [s.enc, .int .i64 id] = .int .i64 (findF (fun x => x.ID == id) s.Allocs 0) := by simp [phi, AStore.dec_enc, updV, den, U.den, B.den, upd, condB, toL_list, toL_agg, toL_tup, toL_ptr, toL_fn, toI_int, toB_bool, allocI]
  simp only [vc14, vh_obl, vh_call, vh_room, vh_branch, vh_loop, vh_again, vh_ret, vh_any, vh_hav, vh_range, pre, implies_true, true_and, forall_eq]
  refine LoopOk.intro (FJ (fun x => x.ID == id) s.Allocs 1) (FM s.Allocs 1) (FJ.start _ _ rfl) ?_
  intro xs hxs hJ
  obtain ⟨_, _, rfl, ⟨k, rfl, _⟩, _, _, rfl, ⟨i, rfl, _⟩, rfl⟩ := hxs
  obtain ⟨n, hn, hle, hf⟩ := hJ
  obtain rfl : i = n := hn
  rcases hx : s.Allocs[n]? with _ | x
  · have hge := ge_none hx
    have hd := FJ.done hx hf
    simp [updV, den, U.den, B.den, upd, condB, toL_list, toL_agg, toL_tup, toL_ptr, toL_fn, toI_int, toB_bool, AStore.toL, encL_toL, hR, hd]
    try omega
  · obtain ⟨hlt, hge⟩ := List.getElem?_eq_some_iff.1 hx
    have hw := next64 hs.Allocs.1.1 hlt
    simp [updV, den, U.den, B.den, upd, condB, toL_list, toL_agg, toL_tup, toL_ptr, toL_fn, toI_int, toB_bool, AStore.toL, encL_toL, hR, hge, hlt, hw, AAlc.toL]
    exact ⟨fun hp => (FJ.hit hx hf (by simpa using hp)).symm, fun hp => FJ.next hx hf (by simpa using hp) rfl rfl⟩
theorem con14 : Con Try.prog pre phi tb14 := con_cons c14 con13

theorem c39 : PureFn Try.prog 39 s39 (pre 39) (phi 39) := by
  refine pureFn_auto (given := []) mix con14 Try.func39 (by kernel_rfl) (v := vc39) (by kernel_rfl) ?_
  intro ds h hp
  obtain ⟨_, _, rfl, gl, _, _, rfl, gb, rfl⟩ := h
  obtain ⟨l, rfl, hl, hkl⟩ := intsD gl
  obtain ⟨b, rfl, hb⟩ := has_int.1 gb
  rw [inK64] at hb

  have hR : phi 39 [.list (l.map (D.int .i64)), .int .i64 b] = .int .i64 (findF (fun y => y == b) l 0) := by simp [phi, intsOf_list, toI_int]
  simp [vc39, vh_obl, vh_call, vh_room, vh_branch, vh_loop, vh_again, vh_ret, vh_any, vh_hav, vh_range, updV, den, U.den, B.den, upd, condB, toL_list, toL_agg, toL_tup, toL_ptr, toL_fn, toI_int, toB_bool, List.getElem?_map, Option.map_some, Option.getD_some, List.length_map, pre, hR]
  refine LoopOk.intro (fun xs => ∃ n : Nat, xs = [.int .i64 0, .int .i64 n] ∧ n ≤ l.length ∧ findF (fun y => y == b) (l.drop n) n = findF (fun y => y == b) l 0) (fun xs => l.length - (I (.list xs) 1).toNat) ⟨0, rfl, Nat.zero_le _, by simp⟩ ?_
  intro xs hxs hJ
  obtain ⟨n, rfl, hle, hno⟩ := hJ
  clear hxs
  rcases hx : l[n]? with _ | x
  · have hge := ge_none hx
    have hlt : ¬ ((n : Int) < l.length) := by omega
    rw [List.drop_of_length_le hge, findF] at hno
    simp [toI_int, hlt, ← hno]
  · have hlt := lt_some hx
    have hlt' : (n : Int) < l.length := by omega
    have hxm := List.mem_of_getElem? hx
    have hw1 : IntKind.wrap .i64 ((n : Int) + 1) = (n : Int) + 1 := wrap64 (by omega) (by omega)
    rw [drop_some hx, findF] at hno
    simp [toI_int, hx, hlt', hw1, Nat.not_le.2 hlt]
    refine ⟨fun h => ?_, fun h => ⟨⟨n + 1, by simp, hlt, ?_⟩, ?_⟩⟩
    · rw [← hno, if_pos (by simp [h])]
    · rw [← hno, if_neg (by simp; exact fun e => h e.symm)]; congr 1
    · show l.length - ((n : Int) + 1).toNat < l.length - (n : Int).toNat
      omega
theorem con39 : Con Try.prog pre phi tb39 := con_cons c39 con14

theorem c37 : PureFn Try.prog 37 s37 (pre 37) (phi 37) := by
  refine pureFn_auto (given := []) mix con39 Try.func37 (by kernel_rfl) (v := vc37) (by kernel_rfl) ?_
  intro ds h hp
  obtain ⟨_, _, rfl, gl, _, _, rfl, gb, rfl⟩ := h
  obtain ⟨l, rfl, hl, hkl⟩ := intsD gl
  obtain ⟨b, rfl, hb⟩ := has_int.1 gb
  rw [inK64] at hb

  have hR : phi 37 [.list (l.map (D.int .i64)), .int .i64 b] = .bool (decide (b ∈ l)) := by simp [phi, intsOf_list, toI_int]
  have hI : phi 39 [.list (l.map (D.int .i64)), .int .i64 b] = .int .i64 (findF (fun y => y == b) l 0) := by simp [phi, intsOf_list, toI_int]
  simp [vc37, vh_obl, vh_call, vh_room, vh_branch, vh_loop, vh_again, vh_ret, vh_any, vh_hav, vh_range, updV, den, U.den, B.den, upd, condB, toL_list, toL_agg, toL_tup, toL_ptr, toL_fn, toI_int, toB_bool, List.getElem?_map, Option.map_some, Option.getD_some, List.length_map, pre, hR, hI]
  rcases findF_cases (fun y => y == b) l 0 with ⟨h1, h2⟩ | ⟨n, y, h1, h2, h3, _⟩
  · have : b ∉ l := fun h => by have := h2 b h; simp at this
    simp [h1, this]
  · have hm := List.mem_of_getElem? h2
    rw [beq_iff_eq] at h3; subst h3
    simp only [h1, hm, iff_true]; omega
theorem con37 : Con Try.prog pre phi tb37 := con_cons c37 con39

end Go.Proofs.Ytippnelhkdjknaa
