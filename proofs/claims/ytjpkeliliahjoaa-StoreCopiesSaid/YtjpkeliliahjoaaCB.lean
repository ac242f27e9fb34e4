/-
  What each function of this seat computes, and that it keeps to it (B).
-/
import Derived.Test.YtjpkeliliahjoaaCA
set_option linter.unusedSimpArgs false
set_option linter.unusedVariables false
namespace Go.Proofs.Ytjpkeliliahjoaa
open Go Go.Eng Go.Proofs


theorem hit_01 (s : AStore) (j : AJob) (id g k : Int) : 0 ≤ hit s j id g k ∧ hit s j id g k ≤ 1 := by
  unfold hit
  split
  · omega
  · split <;> omega
theorem runK_le (s : AStore) (j : AJob) (id g : Int) : ∀ n : Nat, 0 ≤ runK s j id g n ∧ runK s j id g n ≤ n
  | 0 => by simp [runK]
  | n + 1 => by
    have h1 := runK_le s j id g n
    have h2 := hit_01 s j id g n
    simp only [runK]
    omega
theorem cntG_le (x : AGrp) : 0 ≤ cntG x ∧ cntG x ≤ 4 := by unfold cntG; omega
theorem cntG_eq (x : AGrp) : (if 0 < (if 4 < x.Count then 4 else x.Count) then (if 4 < x.Count then 4 else x.Count) else 0) = cntG x := by
  unfold cntG
  split <;> split <;> omega
def SJ (s : AStore) (j : AJob) (id : Int) (xs : List D) : Prop := ∃ (n : Nat) (all run : Int), xs = [.int .i64 all, .int .i64 run, .int .i64 n] ∧ n ≤ j.Groups.length ∧ (0 ≤ all ∧ all ≤ 4 * n ∧ 0 ≤ run ∧ run ≤ 4 * n) ∧
  slotsF s j id (j.Groups.drop n) n all run = slotsF s j id j.Groups 0 0 0
def KJ (s : AStore) (j : AJob) (id g all run c : Int) (xs : List D) : Prop := ∃ k : Nat, xs = [.int .i64 (all + k), .int .i64 (run + runK s j id g k), .int .i64 k] ∧ (k : Int) ≤ c
theorem KJ.next {s : AStore} {j : AJob} {id g all run c : Int} {k : Nat} (h : (k : Int) < c) {r : Int} (hr : r = run + runK s j id g k + hit s j id g k) {e1 e2 : D} :
    KJ s j id g all run c [.int .i64 (all + k + 1), .int .i64 r, .int .i64 ((k : Int) + 1)] ∧ NM c 2 [.int .i64 (all + k + 1), .int .i64 r, .int .i64 ((k : Int) + 1)] < NM c 2 [e1, e2, .int .i64 k] := by
  subst hr
  refine ⟨⟨k + 1, ?_, by omega⟩, ?_⟩
  · simp only [runK, List.cons.injEq, D.int.injEq, true_and, and_true]
    omega
  · show (c - ((k : Int) + 1)).toNat < (c - (k : Int)).toNat
    omega
theorem c8 : PureFn Try.prog 8 s8 (pre 8) (phi 8) := by
  refine pureFn_auto (given := []) mix con11 Try.func8 (by kernel_rfl) (v := vc8) (by kernel_rfl) ?_
  intro ds h hp
  obtain ⟨_, _, rfl, gs, _, _, rfl, ⟨id, rfl, _⟩, rfl⟩ := h
  obtain ⟨s, rfl, hs⟩ := AStore.cases gs
  have hR : phi 8 [s.enc, .int .i64 id] = .tup [.int .i64 (slotsR s id).1, .int .i64 (slotsR s id).2] := hSlots s id
  simp only [vc8, vh_obl, vh_call, vh_room, vh_branch, vh_loop, vh_again, vh_ret, vh_any, vh_hav, pre, implies_true, true_and]
  rcases find0 (fun x : AJob => x.ID == id) s.Jobs with ⟨h1, h2⟩ | ⟨n, j, h1, hx, h2⟩
  · have h1' : jobI s id = -1 := h1
    simp [updV, den, U.den, B.den, upd, condB, toL_list, toL_agg, toL_tup, toL_ptr, toL_fn, toI_int, toB_bool, AStore.toL, AStore.fold, ANode.toL, AAlc.toL, AJob.toL, AGrp.toL, AEvl.toL, ARes.toL, ARes.eta, encL_toL, hFinds, h1', hR, slotsR, h2]
  · have h1' : jobI s id = n := h1
    obtain ⟨hlt, hge⟩ := List.getElem?_eq_some_iff.1 hx
    have hn : ¬ ((n : Int) < 0) := by omega
    have hn0 : (0 : Int) ≤ n := by omega
    have hj := hs.Jobs.2 j (mem_some hx)
    by_cases hk : j.Kind = 3
    · simp [updV, den, U.den, B.den, upd, condB, toL_list, toL_agg, toL_tup, toL_ptr, toL_fn, toI_int, toB_bool, AStore.toL, AStore.fold, ANode.toL, AAlc.toL, AJob.toL, AGrp.toL, AEvl.toL, ARes.toL, ARes.eta, encL_toL, hFinds, h1', hlt, hge, hn, hn0, hR, slotsR, h2, hk]
    · have hS : slotsR s id = slotsF s j id j.Groups 0 0 0 := by simp [slotsR, h2, hk]
      simp [updV, den, U.den, B.den, upd, condB, toL_list, toL_agg, toL_tup, toL_ptr, toL_fn, toI_int, toB_bool, AStore.toL, AStore.fold, ANode.toL, AAlc.toL, AJob.toL, AGrp.toL, AEvl.toL, ARes.toL, ARes.eta, encL_toL, hFinds, h1', hlt, hge, hn, hn0, hR, hS, hk]
      refine LoopOk.intro (SJ s j id) (FM j.Groups 2) ⟨0, 0, 0, rfl, Nat.zero_le _, by omega, rfl⟩ ?_
      rintro xs hxs ⟨m, all, run, rfl, hle, hb, hf⟩
      rcases hy : j.Groups[m]? with _ | x
      · have hge' := ge_none hy
        rw [drop_none hy, slotsF] at hf
        simp [updV, den, U.den, B.den, upd, condB, toL_list, toL_agg, toL_tup, toL_ptr, toL_fn, toI_int, toB_bool, AStore.toL, AStore.fold, ANode.toL, AAlc.toL, AJob.toL, AGrp.toL, AEvl.toL, ARes.toL, ARes.eta, encL_toL, hge', ← hf]
        try omega
      · obtain ⟨hlt', hge'⟩ := List.getElem?_eq_some_iff.1 hy
        have hw := next64 hj.Groups.1.1 hlt'
        have hm47 : j.Groups.length * 24 ≤ 140737488355328 := hj.Groups.1.2
        have hc := cntG_le x
        rw [drop_some hy, slotsF] at hf
        simp [updV, den, U.den, B.den, upd, condB, toL_list, toL_agg, toL_tup, toL_ptr, toL_fn, toI_int, toB_bool, AStore.toL, AStore.fold, ANode.toL, AAlc.toL, AJob.toL, AGrp.toL, AEvl.toL, ARes.toL, ARes.eta, encL_toL, hge', hlt', Nat.not_le.2 hlt', hw, cntG_eq]
        refine LoopOk.intro (KJ s j id m all run (cntG x)) (NM (cntG x) 2) ⟨0, by simp [runK], by omega⟩ ?_
        rintro xs hxs ⟨k, rfl, hkc⟩
        have hrk := runK_le s j id m k
        have e1 : IntKind.i64.wrap (all + k + 1) = all + k + 1 := wrap64 (by omega) (by omega)
        have e2 : IntKind.i64.wrap (run + runK s j id m k + 1) = run + runK s j id m k + 1 := wrap64 (by omega) (by omega)
        have e3 : IntKind.i64.wrap ((k : Int) + 1) = (k : Int) + 1 := wrap64 (by omega) (by omega)
        by_cases hk2 : (k : Int) < cntG x
        · have hk3 : (k : Int) < x.Count ∧ (k : Int) < 4 := by unfold cntG at hk2; omega
          have hk4 : ¬ (x.Count ≤ k) ∧ ¬ ((4 : Int) ≤ k) ∧ ¬ (cntG x ≤ k) := by omega
          rcases find0 (isSlot id (m : Int) (k : Int)) s.Allocs with ⟨q1, q2⟩ | ⟨p, a, q1, qx, q2⟩
          · have q1' : slotI s id m k = -1 := q1
            have hh : hit s j id m k = 0 := by simp [hit, q2]
            have := KJ.next (s := s) (j := j) (id := id) (g := m) (all := all) (run := run) (e1 := .int .i64 (all + k)) (e2 := .int .i64 (run + runK s j id m k)) hk2 (r := run + runK s j id m k) (by rw [hh]; omega)
            simpa [updV, den, U.den, B.den, upd, condB, toL_list, toL_agg, toL_tup, toL_ptr, toL_fn, toI_int, toB_bool, AStore.toL, AStore.fold, ANode.toL, AAlc.toL, AJob.toL, AGrp.toL, AEvl.toL, ARes.toL, ARes.eta, encL_toL, hk2, hk3.1, hk3.2, hk4.1, hk4.2.1, hk4.2.2, hSlot, q1', e1, e2, e3, hlt, hn0, hge] using this
          · have q1' : slotI s id m k = p := q1
            obtain ⟨qlt, qge⟩ := List.getElem?_eq_some_iff.1 qx
            have hp0 : (0 : Int) ≤ p := by omega
            have hp1 : ¬ ((p : Int) < 0) := by omega
            have hh : hit s j id m k = if a.Version == j.Version && a.State == 2 && !a.Stop then 1 else 0 := by simp only [hit, q2]
            have n1 := KJ.next (s := s) (j := j) (id := id) (g := m) (all := all) (run := run) (e1 := .int .i64 (all + k)) (e2 := .int .i64 (run + runK s j id m k)) hk2 rfl
            rw [hh] at n1
            by_cases hc2 : a.Version = j.Version ∧ a.State = 2 ∧ a.Stop = false
            · rw [if_pos (by simp [hc2])] at n1
              simp [updV, den, U.den, B.den, upd, condB, toL_list, toL_agg, toL_tup, toL_ptr, toL_fn, toI_int, toB_bool, AStore.toL, AStore.fold, ANode.toL, AAlc.toL, AJob.toL, AGrp.toL, AEvl.toL, ARes.toL, ARes.eta, encL_toL, hk2, hk3.1, hk3.2, hk4.1, hk4.2.1, hk4.2.2, hSlot, q1', e1, e2, e3, hlt, hn0, hge, qlt, qge, hp0, hp1, hc2.1, hc2.2.1, hc2.2.2]
              simpa using n1
            · have hcb : ¬ ((a.Version == j.Version && a.State == 2 && !a.Stop) = true) := by
                intro hz; apply hc2; simpa [and_assoc] using hz
              rw [if_neg hcb] at n1
              simp only [Int.add_zero] at n1
              simp [updV, den, U.den, B.den, upd, condB, toL_list, toL_agg, toL_tup, toL_ptr, toL_fn, toI_int, toB_bool, AStore.toL, AStore.fold, ANode.toL, AAlc.toL, AJob.toL, AGrp.toL, AEvl.toL, ARes.toL, ARes.eta, encL_toL, hk2, hk3.1, hk3.2, hk4.1, hk4.2.1, hk4.2.2, hSlot, q1', e1, e2, e3, hlt, hn0, hge, qlt, qge, hp0, hp1]
              refine ⟨fun z1 z2 z3 => absurd ⟨z1, z2, z3⟩ hc2, fun _ => n1⟩
        · have hke : (k : Int) = cntG x := by omega
          have hk3 : ¬ ((k : Int) < x.Count ∧ (k : Int) < 4) := by unfold cntG at hke; omega
          have hkn : k = (cntG x).toNat := by omega
          have nx : SJ s j id [.int .i64 (all + k), .int .i64 (run + runK s j id m k), .int .i64 ((m : Int) + 1)] ∧ FM j.Groups 2 [.int .i64 (all + k), .int .i64 (run + runK s j id m k), .int .i64 ((m : Int) + 1)] < FM j.Groups 2 [.int .i64 all, .int .i64 run, .int .i64 m] := by
            refine ⟨⟨m + 1, _, _, rfl, hlt', ?_, ?_⟩, ?_⟩
            · refine ⟨by omega, by push_cast; omega, by omega, by push_cast; omega⟩
            · rw [← hkn, ← hke] at hf
              exact hf
            · show j.Groups.length - ((m : Int) + 1).toNat < j.Groups.length - (m : Int).toNat
              omega
          simp [updV, den, U.den, B.den, upd, condB, toL_list, toL_agg, toL_tup, toL_ptr, toL_fn, toI_int, toB_bool, AStore.toL, AStore.fold, ANode.toL, AAlc.toL, AJob.toL, AGrp.toL, AEvl.toL, ARes.toL, ARes.eta, encL_toL, hk2, hlt, hn0, hge, hge', hlt', hw]
          exact fun _ => nx
theorem con8 : Con Try.prog pre phi tb8 := con_cons c8 con11

theorem c9 : PureFn Try.prog 9 s9 (pre 9) (phi 9) := by
  refine pureFn_auto (given := []) mix con8 Try.func9 (by kernel_rfl) (v := vc9) (by kernel_rfl) ?_
  intro ds h hp
  obtain ⟨_, _, rfl, gs, _, _, rfl, ⟨id, rfl, _⟩, rfl⟩ := h
  obtain ⟨s, rfl, hs⟩ := AStore.cases gs
  have hR : phi 9 [s.enc, .int .i64 id] = .tup [.int .i64 (slotsR s id).1, .int .i64 (slotsR s id).2] := hSlotsR s id
  simp only [vc9, vh_obl, vh_call, vh_room, vh_branch, vh_loop, vh_again, vh_ret, vh_any, vh_hav, pre, implies_true, true_and]
  rcases find0 (fun x : AJob => x.ID == id) s.Jobs with ⟨h1, h2⟩ | ⟨n, j, h1, hx, h2⟩
  · have h1' : jobI s id = -1 := h1
    simp [updV, den, U.den, B.den, upd, condB, toL_list, toL_agg, toL_tup, toL_ptr, toL_fn, toI_int, toB_bool, AStore.toL, AStore.fold, ANode.toL, AAlc.toL, AJob.toL, AGrp.toL, AEvl.toL, ARes.toL, ARes.eta, encL_toL, hFinds, h1', hR, slotsR, h2]
  · have h1' : jobI s id = n := h1
    obtain ⟨hlt, hge⟩ := List.getElem?_eq_some_iff.1 hx
    have hn : ¬ ((n : Int) < 0) := by omega
    have hn0 : (0 : Int) ≤ n := by omega
    have hj := hs.Jobs.2 j (mem_some hx)
    by_cases hk : j.Kind = 3
    · simp [updV, den, U.den, B.den, upd, condB, toL_list, toL_agg, toL_tup, toL_ptr, toL_fn, toI_int, toB_bool, AStore.toL, AStore.fold, ANode.toL, AAlc.toL, AJob.toL, AGrp.toL, AEvl.toL, ARes.toL, ARes.eta, encL_toL, hFinds, h1', hlt, hge, hn, hn0, hR, slotsR, h2, hk]
    · have hS : slotsR s id = slotsF s j id j.Groups 0 0 0 := by simp [slotsR, h2, hk]
      simp [updV, den, U.den, B.den, upd, condB, toL_list, toL_agg, toL_tup, toL_ptr, toL_fn, toI_int, toB_bool, AStore.toL, AStore.fold, ANode.toL, AAlc.toL, AJob.toL, AGrp.toL, AEvl.toL, ARes.toL, ARes.eta, encL_toL, hFinds, h1', hlt, hge, hn, hn0, hR, hS, hk]
      refine LoopOk.intro (SJ s j id) (FM j.Groups 2) ⟨0, 0, 0, rfl, Nat.zero_le _, by omega, rfl⟩ ?_
      rintro xs hxs ⟨m, all, run, rfl, hle, hb, hf⟩
      rcases hy : j.Groups[m]? with _ | x
      · have hge' := ge_none hy
        rw [drop_none hy, slotsF] at hf
        simp [updV, den, U.den, B.den, upd, condB, toL_list, toL_agg, toL_tup, toL_ptr, toL_fn, toI_int, toB_bool, AStore.toL, AStore.fold, ANode.toL, AAlc.toL, AJob.toL, AGrp.toL, AEvl.toL, ARes.toL, ARes.eta, encL_toL, hge', ← hf]
        try omega
      · obtain ⟨hlt', hge'⟩ := List.getElem?_eq_some_iff.1 hy
        have hw := next64 hj.Groups.1.1 hlt'
        have hm47 : j.Groups.length * 24 ≤ 140737488355328 := hj.Groups.1.2
        have hc := cntG_le x
        rw [drop_some hy, slotsF] at hf
        simp [updV, den, U.den, B.den, upd, condB, toL_list, toL_agg, toL_tup, toL_ptr, toL_fn, toI_int, toB_bool, AStore.toL, AStore.fold, ANode.toL, AAlc.toL, AJob.toL, AGrp.toL, AEvl.toL, ARes.toL, ARes.eta, encL_toL, hge', hlt', Nat.not_le.2 hlt', hw, cntG_eq]
        refine LoopOk.intro (KJ s j id m all run (cntG x)) (NM (cntG x) 2) ⟨0, by simp [runK], by omega⟩ ?_
        rintro xs hxs ⟨k, rfl, hkc⟩
        have hrk := runK_le s j id m k
        have e1 : IntKind.i64.wrap (all + k + 1) = all + k + 1 := wrap64 (by omega) (by omega)
        have e2 : IntKind.i64.wrap (run + runK s j id m k + 1) = run + runK s j id m k + 1 := wrap64 (by omega) (by omega)
        have e3 : IntKind.i64.wrap ((k : Int) + 1) = (k : Int) + 1 := wrap64 (by omega) (by omega)
        by_cases hk2 : (k : Int) < cntG x
        · have hk3 : (k : Int) < x.Count ∧ (k : Int) < 4 := by unfold cntG at hk2; omega
          have hk4 : ¬ (x.Count ≤ k) ∧ ¬ ((4 : Int) ≤ k) ∧ ¬ (cntG x ≤ k) := by omega
          rcases find0 (isSlot id (m : Int) (k : Int)) s.Allocs with ⟨q1, q2⟩ | ⟨p, a, q1, qx, q2⟩
          · have q1' : slotI s id m k = -1 := q1
            have hh : hit s j id m k = 0 := by simp [hit, q2]
            have := KJ.next (s := s) (j := j) (id := id) (g := m) (all := all) (run := run) (e1 := .int .i64 (all + k)) (e2 := .int .i64 (run + runK s j id m k)) hk2 (r := run + runK s j id m k) (by rw [hh]; omega)
            simpa [updV, den, U.den, B.den, upd, condB, toL_list, toL_agg, toL_tup, toL_ptr, toL_fn, toI_int, toB_bool, AStore.toL, AStore.fold, ANode.toL, AAlc.toL, AJob.toL, AGrp.toL, AEvl.toL, ARes.toL, ARes.eta, encL_toL, hk2, hk3.1, hk3.2, hk4.1, hk4.2.1, hk4.2.2, hSlotR, q1', e1, e2, e3, hlt, hn0, hge] using this
          · have q1' : slotI s id m k = p := q1
            obtain ⟨qlt, qge⟩ := List.getElem?_eq_some_iff.1 qx
            have hp0 : (0 : Int) ≤ p := by omega
            have hp1 : ¬ ((p : Int) < 0) := by omega
            have hh : hit s j id m k = if a.Version == j.Version && a.State == 2 && !a.Stop then 1 else 0 := by simp only [hit, q2]
            have n1 := KJ.next (s := s) (j := j) (id := id) (g := m) (all := all) (run := run) (e1 := .int .i64 (all + k)) (e2 := .int .i64 (run + runK s j id m k)) hk2 rfl
            rw [hh] at n1
            by_cases hc2 : a.Version = j.Version ∧ a.State = 2 ∧ a.Stop = false
            · rw [if_pos (by simp [hc2])] at n1
              simp [updV, den, U.den, B.den, upd, condB, toL_list, toL_agg, toL_tup, toL_ptr, toL_fn, toI_int, toB_bool, AStore.toL, AStore.fold, ANode.toL, AAlc.toL, AJob.toL, AGrp.toL, AEvl.toL, ARes.toL, ARes.eta, encL_toL, hk2, hk3.1, hk3.2, hk4.1, hk4.2.1, hk4.2.2, hSlotR, q1', e1, e2, e3, hlt, hn0, hge, qlt, qge, hp0, hp1, hc2.1, hc2.2.1, hc2.2.2]
              simpa using n1
            · have hcb : ¬ ((a.Version == j.Version && a.State == 2 && !a.Stop) = true) := by
                intro hz; apply hc2; simpa [and_assoc] using hz
              rw [if_neg hcb] at n1
              simp only [Int.add_zero] at n1
              simp [updV, den, U.den, B.den, upd, condB, toL_list, toL_agg, toL_tup, toL_ptr, toL_fn, toI_int, toB_bool, AStore.toL, AStore.fold, ANode.toL, AAlc.toL, AJob.toL, AGrp.toL, AEvl.toL, ARes.toL, ARes.eta, encL_toL, hk2, hk3.1, hk3.2, hk4.1, hk4.2.1, hk4.2.2, hSlotR, q1', e1, e2, e3, hlt, hn0, hge, qlt, qge, hp0, hp1]
              refine ⟨fun z1 z2 z3 => absurd ⟨z1, z2, z3⟩ hc2, fun _ => n1⟩
        · have hke : (k : Int) = cntG x := by omega
          have hk3 : ¬ ((k : Int) < x.Count ∧ (k : Int) < 4) := by unfold cntG at hke; omega
          have hkn : k = (cntG x).toNat := by omega
          have nx : SJ s j id [.int .i64 (all + k), .int .i64 (run + runK s j id m k), .int .i64 ((m : Int) + 1)] ∧ FM j.Groups 2 [.int .i64 (all + k), .int .i64 (run + runK s j id m k), .int .i64 ((m : Int) + 1)] < FM j.Groups 2 [.int .i64 all, .int .i64 run, .int .i64 m] := by
            refine ⟨⟨m + 1, _, _, rfl, hlt', ?_, ?_⟩, ?_⟩
            · refine ⟨by omega, by push_cast; omega, by omega, by push_cast; omega⟩
            · rw [← hkn, ← hke] at hf
              exact hf
            · show j.Groups.length - ((m : Int) + 1).toNat < j.Groups.length - (m : Int).toNat
              omega
          simp [updV, den, U.den, B.den, upd, condB, toL_list, toL_agg, toL_tup, toL_ptr, toL_fn, toI_int, toB_bool, AStore.toL, AStore.fold, ANode.toL, AAlc.toL, AJob.toL, AGrp.toL, AEvl.toL, ARes.toL, ARes.eta, encL_toL, hk2, hlt, hn0, hge, hge', hlt', hw]
          exact ⟨fun z1 z2 => absurd ⟨z1, z2⟩ hk3, fun _ => nx⟩
theorem con9 : Con Try.prog pre phi tb9 := con_cons c9 con8

theorem c38 : PureFn Try.prog 38 s38 (pre 38) (phi 38) := by
  refine pureFn_auto (given := []) mix con9 Try.func38 (by kernel_rfl) (v := vc38) (by kernel_rfl) ?_
  intro ds h hp
  obtain rfl := h
  simp only [vc38, vh_obl, vh_call, vh_room, vh_branch, vh_loop, vh_again, vh_ret, vh_any, vh_hav]
  kernel_rfl
theorem con38 : Con Try.prog pre phi tb38 := con_cons c38 con9

theorem c14 : PureFn Try.prog 14 s14 (pre 14) (phi 14) := by
  refine pureFn_auto (given := []) mix con38 Try.func14 (by kernel_rfl) (v := vc14) (by kernel_rfl) ?_
  intro ds h hp
  obtain rfl := h
  simp only [vc14, vh_obl, vh_call, vh_room, vh_branch, vh_loop, vh_again, vh_ret, vh_any, vh_hav, pre, implies_true, true_and]
  kernel_rfl
theorem con14 : Con Try.prog pre phi tb14 := con_cons c14 con38

end Go.Proofs.Ytjpkeliliahjoaa
