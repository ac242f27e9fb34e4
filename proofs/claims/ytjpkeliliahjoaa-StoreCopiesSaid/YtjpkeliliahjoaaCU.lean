/-
  What each function of this seat computes, and that it keeps to it (U).
-/
import Derived.Test.YtjpkeliliahjoaaCT
set_option linter.unusedSimpArgs false
set_option linter.unusedVariables false
namespace Go.Proofs.Ytjpkeliliahjoaa
open Go Go.Eng Go.Proofs

theorem c31 : PureFn Try.prog 31 s31 (pre 31) (phi 31) := by
  refine pureFn_auto (given := []) mix con58 Try.func31 (by kernel_rfl) (v := vc31) (by kernel_rfl) ?_
  intro ds h hp
  obtain ⟨_, _, rfl, ga, _, _, rfl, gb, rfl⟩ := h
  obtain ⟨s, rfl, hs⟩ := AStore.cases ga
  obtain ⟨t, rfl, ht⟩ := AStore.cases gb
  have hR : phi 31 [s.enc, t.enc] = .bool (decide (s = t)) := by simp [phi, AStore.dec_enc]
  have hJ : ∀ l l' : List AJob, phi 56 [encL AJob.enc l, encL AJob.enc l'] = .bool (decide (l = l')) := fun l l' => by simp [phi, AJob.decl]
  have hA : ∀ l l' : List AAlc, phi 57 [encL AAlc.enc l, encL AAlc.enc l'] = .bool (decide (l = l')) := fun l l' => by simp [phi, AAlc.decl]
  have hRes : ∀ (c1 v1 c2 v2 : Int) (l l' : List AAlc), phi 58 [.agg [.int .i64 c1, .int .i64 v1, encL AAlc.enc l], .agg [.int .i64 c2, .int .i64 v2, encL AAlc.enc l']] = .bool (decide (c1 = c2 ∧ v1 = v2 ∧ l = l')) := by
    intros; simp [phi, AAlc.decl, I, updV, den, U.den, B.den, upd, condB, toL_list, toL_agg, toL_tup, toL_ptr, toL_fn, toI_int, toB_bool]
  simp only [vc31, vh_obl, vh_call, vh_room, vh_branch, vh_loop, vh_again, vh_ret, vh_any, vh_hav, pre, implies_true, true_and, forall_eq, hR]
  refine ⟨fun hne => ?_, fun heq => ?_⟩
  · have : s ≠ t := by
      rintro rfl
      simp [updV, den, U.den, B.den, upd, condB, toL_list, toL_agg, toL_tup, toL_ptr, toL_fn, toI_int, toB_bool, encL_toL, AStore.toL, hJ, hA] at hne
    simp [updV, den, U.den, B.den, upd, condB, toL_list, toL_agg, toL_tup, toL_ptr, toL_fn, toI_int, toB_bool, this]
  · have h9 := heq
    simp [updV, den, U.den, B.den, upd, condB, toL_list, toL_agg, toL_tup, toL_ptr, toL_fn, toI_int, toB_bool, encL_toL, AStore.toL, hJ, hA, and_assoc] at h9
    obtain ⟨k1, k2, k3, k4, k5, k6, k7, k8, k9⟩ := h9
    have l1 : s.Nodes.length = t.Nodes.length := by omega
    have l2 : s.Evals.length = t.Evals.length := by omega
    have l3 : s.Deploys.length = t.Deploys.length := by omega
    have l4 : s.Seen.length = t.Seen.length := by omega
    have hiff : s = t ↔ (s.Nodes = t.Nodes ∧ s.Evals = t.Evals ∧ s.Deploys = t.Deploys ∧ s.Seen = t.Seen) := by
      rw [AStore.eq_iff]
      exact ⟨fun h => ⟨h.2.2.2.2.1, h.2.2.2.2.2.2.1, h.2.2.2.2.2.2.2.1, h.2.2.2.2.2.2.2.2⟩, fun h => ⟨k4, k5, k1, k2, h.1, k3, h.2.1, h.2.2.1, h.2.2.2⟩⟩
    refine LoopOk.intro (EqJ s.Nodes t.Nodes 1) (FM s.Nodes 1) (EqJ.start _ _ rfl) ?_
    intro xs1 hxs1 hJ1
    obtain ⟨_, _, rfl, ⟨z1, rfl⟩, _, _, rfl, ⟨i1, rfl, _⟩, rfl⟩ := hxs1
    obtain ⟨n1, hn1, hle1, ht1⟩ := hJ1
    obtain rfl : i1 = n1 := hn1
    rcases hx1 : s.Nodes[n1]? with _ | x
    · have hge1 := ge_none hx1
      have e1 := EqJ.done hx1 l1 ht1
      have hnl1 : ¬ n1 < s.Nodes.length := by omega
      simp [updV, den, U.den, B.den, upd, condB, toL_list, toL_agg, toL_tup, toL_ptr, toL_fn, toI_int, toB_bool, AStore.toL, encL_toL, hnl1]
      try intro _
      refine LoopOk.intro (EqJ s.Evals t.Evals 1) (FM s.Evals 1) (EqJ.start _ _ rfl) ?_
      intro xs2 hxs2 hJ2
      obtain ⟨_, _, rfl, ⟨z2, rfl⟩, _, _, rfl, ⟨i2, rfl, _⟩, rfl⟩ := hxs2
      obtain ⟨n2, hn2, hle2, ht2⟩ := hJ2
      obtain rfl : i2 = n2 := hn2
      rcases hx2 : s.Evals[n2]? with _ | x
      · have hge2 := ge_none hx2
        have e2 := EqJ.done hx2 l2 ht2
        have hnl2 : ¬ n2 < s.Evals.length := by omega
        simp [updV, den, U.den, B.den, upd, condB, toL_list, toL_agg, toL_tup, toL_ptr, toL_fn, toI_int, toB_bool, AStore.toL, encL_toL, hnl2]
        try intro _
        refine LoopOk.intro (EqJ s.Deploys t.Deploys 1) (FM s.Deploys 1) (EqJ.start _ _ rfl) ?_
        intro xs3 hxs3 hJ3
        obtain ⟨_, _, rfl, ⟨z3, rfl⟩, _, _, rfl, ⟨i3, rfl, _⟩, rfl⟩ := hxs3
        obtain ⟨n3, hn3, hle3, ht3⟩ := hJ3
        obtain rfl : i3 = n3 := hn3
        rcases hx3 : s.Deploys[n3]? with _ | x
        · have hge3 := ge_none hx3
          have e3 := EqJ.done hx3 l3 ht3
          have hnl3 : ¬ n3 < s.Deploys.length := by omega
          simp [updV, den, U.den, B.den, upd, condB, toL_list, toL_agg, toL_tup, toL_ptr, toL_fn, toI_int, toB_bool, AStore.toL, encL_toL, hnl3]
          try intro _
          refine LoopOk.intro (EqJ s.Seen t.Seen 1) (FM s.Seen 1) (EqJ.start _ _ rfl) ?_
          intro xs4 hxs4 hJ4
          obtain ⟨_, _, rfl, ⟨z4, rfl⟩, _, _, rfl, ⟨i4, rfl, _⟩, rfl⟩ := hxs4
          obtain ⟨n4, hn4, hle4, ht4⟩ := hJ4
          obtain rfl : i4 = n4 := hn4
          rcases hx4 : s.Seen[n4]? with _ | x
          · have hge4 := ge_none hx4
            have e4 := EqJ.done hx4 l4 ht4
            have hnl4 : ¬ n4 < s.Seen.length := by omega
            simp [updV, den, U.den, B.den, upd, condB, toL_list, toL_agg, toL_tup, toL_ptr, toL_fn, toI_int, toB_bool, AStore.toL, encL_toL, hnl4, hiff.2 ⟨e1, e2, e3, e4⟩]
            try omega
          · obtain ⟨hlt, hge⟩ := List.getElem?_eq_some_iff.1 hx4
            have hlt' : n4 < t.Seen.length := by omega
            obtain ⟨y, hy⟩ : ∃ y, t.Seen[n4]? = some y := ⟨_, List.getElem?_eq_getElem hlt'⟩
            obtain ⟨_, hge'⟩ := List.getElem?_eq_some_iff.1 hy
            have hw := next64 hs.Seen.1.1 hlt
            by_cases hxy : x = y
            · subst hxy
              simp [updV, den, U.den, B.den, upd, condB, toL_list, toL_agg, toL_tup, toL_ptr, toL_fn, toI_int, toB_bool, AStore.toL, encL_toL, ASeen.toL, hge, hge', hlt, hlt', Nat.not_le.2 hlt, hw, hRes]
              exact EqJ.next hx4 hy ht4 rfl rfl
            · have hb : s ≠ t := fun h => EqJ.bad hx4 hy hxy (by rw [h])
              rw [ASeen.eq_iff] at hxy
              simp [ASeen.toL] at hxy
              simp [updV, den, U.den, B.den, upd, condB, toL_list, toL_agg, toL_tup, toL_ptr, toL_fn, toI_int, toB_bool, AStore.toL, encL_toL, ASeen.toL, hge, hge', hlt, hlt', Nat.not_le.2 hlt, hw, hb, hRes]
              intros; exfalso; apply hxy <;> assumption
        · obtain ⟨hlt, hge⟩ := List.getElem?_eq_some_iff.1 hx3
          have hlt' : n3 < t.Deploys.length := by omega
          obtain ⟨y, hy⟩ : ∃ y, t.Deploys[n3]? = some y := ⟨_, List.getElem?_eq_getElem hlt'⟩
          obtain ⟨_, hge'⟩ := List.getElem?_eq_some_iff.1 hy
          have hw := next64 hs.Deploys.1.1 hlt
          by_cases hxy : x = y
          · subst hxy
            simp [updV, den, U.den, B.den, upd, condB, toL_list, toL_agg, toL_tup, toL_ptr, toL_fn, toI_int, toB_bool, AStore.toL, encL_toL, AEvl.toL, hge, hge', hlt, hlt', Nat.not_le.2 hlt, hw]
            exact EqJ.next hx3 hy ht3 rfl rfl
          · have hb : s ≠ t := fun h => EqJ.bad hx3 hy hxy (by rw [h])
            rw [AEvl.eq_iff] at hxy
            simp [AEvl.toL] at hxy
            simp [updV, den, U.den, B.den, upd, condB, toL_list, toL_agg, toL_tup, toL_ptr, toL_fn, toI_int, toB_bool, AStore.toL, encL_toL, AEvl.toL, hge, hge', hlt, hlt', Nat.not_le.2 hlt, hw, hb]
            intros; exfalso; apply hxy <;> assumption
      · obtain ⟨hlt, hge⟩ := List.getElem?_eq_some_iff.1 hx2
        have hlt' : n2 < t.Evals.length := by omega
        obtain ⟨y, hy⟩ : ∃ y, t.Evals[n2]? = some y := ⟨_, List.getElem?_eq_getElem hlt'⟩
        obtain ⟨_, hge'⟩ := List.getElem?_eq_some_iff.1 hy
        have hw := next64 hs.Evals.1.1 hlt
        by_cases hxy : x = y
        · subst hxy
          simp [updV, den, U.den, B.den, upd, condB, toL_list, toL_agg, toL_tup, toL_ptr, toL_fn, toI_int, toB_bool, AStore.toL, encL_toL, AEvl.toL, hge, hge', hlt, hlt', Nat.not_le.2 hlt, hw]
          exact EqJ.next hx2 hy ht2 rfl rfl
        · have hb : s ≠ t := fun h => EqJ.bad hx2 hy hxy (by rw [h])
          rw [AEvl.eq_iff] at hxy
          simp [AEvl.toL] at hxy
          simp [updV, den, U.den, B.den, upd, condB, toL_list, toL_agg, toL_tup, toL_ptr, toL_fn, toI_int, toB_bool, AStore.toL, encL_toL, AEvl.toL, hge, hge', hlt, hlt', Nat.not_le.2 hlt, hw, hb]
          intros; exfalso; apply hxy <;> assumption
    · obtain ⟨hlt, hge⟩ := List.getElem?_eq_some_iff.1 hx1
      have hlt' : n1 < t.Nodes.length := by omega
      obtain ⟨y, hy⟩ : ∃ y, t.Nodes[n1]? = some y := ⟨_, List.getElem?_eq_getElem hlt'⟩
      obtain ⟨_, hge'⟩ := List.getElem?_eq_some_iff.1 hy
      have hw := next64 hs.Nodes.1.1 hlt
      by_cases hxy : x = y
      · subst hxy
        simp [updV, den, U.den, B.den, upd, condB, toL_list, toL_agg, toL_tup, toL_ptr, toL_fn, toI_int, toB_bool, AStore.toL, encL_toL, ANode.toL, hge, hge', hlt, hlt', Nat.not_le.2 hlt, hw]
        exact EqJ.next hx1 hy ht1 rfl rfl
      · have hb : s ≠ t := fun h => EqJ.bad hx1 hy hxy (by rw [h])
        rw [ANode.eq_iff] at hxy
        simp [ANode.toL] at hxy
        simp [updV, den, U.den, B.den, upd, condB, toL_list, toL_agg, toL_tup, toL_ptr, toL_fn, toI_int, toB_bool, AStore.toL, encL_toL, ANode.toL, hge, hge', hlt, hlt', Nat.not_le.2 hlt, hw, hb]
        intros; exfalso; apply hxy <;> assumption
theorem con31 : Con Try.prog pre phi tb31 := con_cons c31 con58

end Go.Proofs.Ytjpkeliliahjoaa
