/-
  What each function of this seat computes, and that it keeps to it (B).
-/
import Derived.Test.YtkmgkdaedjdeeaaCA
set_option linter.unusedSimpArgs false
set_option linter.unusedVariables false
namespace Go.Proofs.Ytkmgkdaedjdeeaa
open Go Go.Eng Go.Proofs

theorem c14 : PureFn Try.prog 14 s14 (pre 14) (phi 14) := by
  refine pureFn_auto (given := []) mix con17 Try.func14 (by kernel_rfl) (v := vc14) (by kernel_rfl) ?_
  intro ds h hp
  obtain ⟨_, _, rfl, gs, _, _, rfl, gm, _, _, rfl, ⟨node, rfl, _⟩, rfl⟩ := h
  obtain ⟨s, rfl, hs⟩ := AStore.cases gs
  obtain ⟨more, rfl, hl, hm⟩ := AAlc.cases_l gm
  simp only [vc14, vh_obl, vh_call, vh_room, vh_branch, vh_loop, vh_again, vh_ret, pre, implies_true, true_and, forall_eq]
  have hX : (used s node).enc.toL = [.int .i64 (used s node).CPU, .int .i64 (used s node).Mem] := rfl
  simp only [updV, den, U.den, B.den, upd, condB, toL_list, toL_agg, toL_tup, toL_ptr, toL_fn, toI_int, toB_bool, AStore.toL, AStore.fold, ANode.toL, AAlc.toL, ARes.toL, ARes.eta, encL_toL, List.getD_cons_zero, List.getD_cons_succ, hUsed, hUsedM, hAdd]
  refine LoopOk.intro (fun xs => ∃ n : Nat, I (.list xs) 1 = n ∧ n ≤ more.length ∧ moreF node (more.drop n) ⟨I (.list xs) 2, I (.list xs) 3⟩ = usedM s more node) (FM more 1) ⟨0, rfl, Nat.zero_le _, ?_⟩ ?_
  · simp [I, toL_list, updV, den, U.den, B.den, upd, condB, toL_list, toL_agg, toL_tup, toL_ptr, toL_fn, toI_int, toB_bool, AStore.toL, AStore.fold, ANode.toL, AAlc.toL, ARes.toL, ARes.eta, encL_toL, hUsed, usedM]
  intro xs hxs hJ
  obtain ⟨_, _, rfl, ⟨k, rfl⟩, _, _, rfl, ⟨i, rfl, _⟩, _, _, rfl, ⟨u, rfl, _⟩, _, _, rfl, ⟨v, rfl, _⟩, _, _, rfl, ⟨p, rfl, _⟩, _, _, rfl, ⟨q, rfl, _⟩, rfl⟩ := hxs
  obtain ⟨n, hn, hle, hf⟩ := hJ
  obtain rfl : i = n := hn
  replace hf : moreF node (more.drop n) ⟨u, v⟩ = usedM s more node := hf
  rcases hx : more[n]? with _ | x
  · have hge := ge_none hx
    rw [drop_none hx, moreF] at hf
    simp [updV, den, U.den, B.den, upd, condB, toL_list, toL_agg, toL_tup, toL_ptr, toL_fn, toI_int, toB_bool, AStore.toL, AStore.fold, ANode.toL, AAlc.toL, ARes.toL, ARes.eta, encL_toL, ← hf]
    try omega
  · obtain ⟨hlt, hge⟩ := List.getElem?_eq_some_iff.1 hx
    have hw := next64 hl.1 hlt
    rw [drop_some hx, moreF] at hf
    have nx : ∀ (e1 e2 : D) (r : List D) (u' v' : Int), moreF node (more.drop (n + 1)) ⟨u', v'⟩ = usedM s more node →
        (∃ m : Nat, I (.list (e1 :: .int .i64 ((n : Int) + 1) :: .int .i64 u' :: .int .i64 v' :: r)) 1 = m ∧ m ≤ more.length ∧ moreF node (more.drop m) ⟨I (.list (e1 :: .int .i64 ((n : Int) + 1) :: .int .i64 u' :: .int .i64 v' :: r)) 2, I (.list (e1 :: .int .i64 ((n : Int) + 1) :: .int .i64 u' :: .int .i64 v' :: r)) 3⟩ = usedM s more node) ∧
        FM more 1 (e1 :: .int .i64 ((n : Int) + 1) :: .int .i64 u' :: .int .i64 v' :: r) < FM more 1 (e2 :: .int .i64 n :: .int .i64 u :: .int .i64 v :: r) := by
      intro e1 e2 r u' v' h
      refine ⟨⟨n + 1, rfl, hlt, h⟩, ?_⟩
      show more.length - ((n : Int) + 1).toNat < more.length - (n : Int).toNat
      omega
    simp [updV, den, U.den, B.den, upd, condB, toL_list, toL_agg, toL_tup, toL_ptr, toL_fn, toI_int, toB_bool, AStore.toL, AStore.fold, ANode.toL, AAlc.toL, ARes.toL, ARes.eta, encL_toL, hge, hlt, hw, hAdd]
    refine ⟨fun hc => ?_, fun h1 => ⟨fun h2 => ?_, fun h2 => ?_⟩⟩
    · rw [if_pos (by simpa using hc)] at hf
      exact nx _ _ _ _ _ hf
    · rw [if_neg (by simp [h1]), if_neg (by simp [h2])] at hf
      simp [← hf]
    · rw [if_neg (by simp [h1]), if_pos h2] at hf
      exact nx _ _ _ _ _ hf
theorem con14 : Con Try.prog pre phi tb14 := con_cons c14 con17

theorem c8 : PureFn Try.prog 8 s8 (pre 8) (phi 8) := by
  refine pureFn_auto (given := []) mix con14 Try.func8 (by kernel_rfl) (v := vc8) (by kernel_rfl) ?_
  intro ds h hp
  obtain ⟨_, _, rfl, gs, _, _, rfl, gm, _, _, rfl, ⟨node, rfl, _⟩, _, _, rfl, ga, rfl⟩ := h
  obtain ⟨s, rfl, hs⟩ := AStore.cases gs
  obtain ⟨more, rfl, hl, hm⟩ := AAlc.cases_l gm
  obtain ⟨ask, rfl, ha⟩ := ARes.cases ga
  have hR : phi 8 [s.enc, encL AAlc.enc more, .int .i64 node, ask.enc] = .bool (may s more node ask) := hMay s more node ask
  simp only [vc8, vh_obl, vh_call, vh_room, vh_branch, vh_loop, vh_again, vh_ret, pre, implies_true, true_and, forall_eq]
  rcases node_cases s node with ⟨h1, h2⟩ | ⟨n, x, h1, hx, h2, h3⟩
  · simp [updV, den, U.den, B.den, upd, condB, toL_list, toL_agg, toL_tup, toL_ptr, toL_fn, toI_int, toB_bool, AStore.toL, AStore.fold, ANode.toL, AAlc.toL, ARes.toL, ARes.eta, encL_toL, hNode, h1, hR, may, h2]
  · obtain ⟨hlt, hge⟩ := List.getElem?_eq_some_iff.1 hx
    have hn : ¬ ((n : Int) < 0) := by omega
    have hn0 : (0 : Int) ≤ n := by omega
    simp [updV, den, U.den, B.den, upd, condB, toL_list, toL_agg, toL_tup, toL_ptr, toL_fn, toI_int, toB_bool, AStore.toL, AStore.fold, ANode.toL, AAlc.toL, ARes.toL, ARes.eta, encL_toL, hNode, h1, hR, may, h2, hlt, hge, hn, hn0, hUsedM, hFits, openN]
    cases x.Up <;> cases x.Drain <;> simp
theorem con8 : Con Try.prog pre phi tb8 := con_cons c8 con14

theorem c16 : PureFn Try.prog 16 s16 (pre 16) (phi 16) := by
  refine pureFn_auto (given := []) mix con8 Try.func16 (by kernel_rfl) (v := vc16) (by kernel_rfl) ?_
  intro ds h hp
  obtain ⟨_, _, rfl, gs, _, _, rfl, gm, _, _, rfl, ⟨node, rfl, _⟩, _, _, rfl, ga, rfl⟩ := h
  obtain ⟨s, rfl, hs⟩ := AStore.cases gs
  obtain ⟨more, rfl, hl, hm⟩ := AAlc.cases_l gm
  obtain ⟨ask, rfl, ha⟩ := ARes.cases ga
  have hR : phi 16 [s.enc, encL AAlc.enc more, .int .i64 node, ask.enc] = .tup [.int .i64 (leftR s more node ask).1, .bool (leftR s more node ask).2] := hLeft s more node ask
  simp only [vc16, vh_obl, vh_call, vh_room, vh_branch, vh_loop, vh_again, vh_ret, pre, implies_true, true_and, forall_eq]
  rcases node_cases s node with ⟨h1, h2⟩ | ⟨n, x, h1, hx, h2, h3⟩
  · simp [updV, den, U.den, B.den, upd, condB, toL_list, toL_agg, toL_tup, toL_ptr, toL_fn, toI_int, toB_bool, AStore.toL, AStore.fold, ANode.toL, AAlc.toL, ARes.toL, ARes.eta, encL_toL, hNodeR, h1, hR, leftR, h2]
  · obtain ⟨hlt, hge⟩ := List.getElem?_eq_some_iff.1 hx
    have hn : ¬ ((n : Int) < 0) := by omega
    have hn0 : (0 : Int) ≤ n := by omega
    cases ho : openN x with
    | false =>
      have hq : ¬ (x.Up = true ∧ x.Drain = false) := by intro ⟨p, q⟩; simp [openN, p, q] at ho
      simp [updV, den, U.den, B.den, upd, condB, toL_list, toL_agg, toL_tup, toL_ptr, toL_fn, toI_int, toB_bool, AStore.toL, AStore.fold, ANode.toL, AAlc.toL, ARes.toL, ARes.eta, encL_toL, hNodeR, h1, hR, leftR, h2, hlt, hge, hn, hn0, ho]
      cases hu : x.Up <;> cases hd : x.Drain <;> simp [hu, hd] at hq ⊢
    | true =>
      have hu : x.Up = true := by simp [openN] at ho; exact ho.1
      have hd : x.Drain = false := by simp [openN] at ho; exact ho.2
      simp [updV, den, U.den, B.den, upd, condB, toL_list, toL_agg, toL_tup, toL_ptr, toL_fn, toI_int, toB_bool, AStore.toL, AStore.fold, ANode.toL, AAlc.toL, ARes.toL, ARes.eta, encL_toL, hNodeR, h1, hR, hlt, hge, hn, hn0, ho, hUsedR, hu, hd]
      refine LoopOk.intro (fun xs => ∃ n : Nat, I (.list xs) 2 = n ∧ n ≤ more.length ∧ moreF node (more.drop n) ⟨I (.list xs) 3, I (.list xs) 4⟩ = usedM s more node) (FM more 2) ⟨0, rfl, Nat.zero_le _, rfl⟩ ?_
      intro xs hxs hJ
      obtain ⟨_, _, rfl, ⟨k, rfl, _⟩, _, _, rfl, ⟨k2, rfl⟩, _, _, rfl, ⟨i, rfl, _⟩, _, _, rfl, ⟨u, rfl, _⟩, _, _, rfl, ⟨v, rfl, _⟩, rfl⟩ := hxs
      obtain ⟨m, hn', hle, hf⟩ := hJ
      obtain rfl : i = m := hn'
      replace hf : moreF node (more.drop m) ⟨u, v⟩ = usedM s more node := hf
      rcases hx' : more[m]? with _ | y
      · have hge' := ge_none hx'
        have hnl : ¬ (m < more.length) := by omega
        rw [drop_none hx', moreF] at hf
        have hL : leftR s more node ask = if fitsR ⟨u, v⟩ ask ⟨x.CPU, x.Mem⟩ then (W (W (x.CPU - (addR ⟨u, v⟩ ask).1.CPU) + W (x.Mem - (addR ⟨u, v⟩ ask).1.Mem)), true) else (0, false) := by
          simp only [leftR, h2, ho, ← hf, Bool.true_and]
        simp [updV, den, U.den, B.den, upd, condB, toL_list, toL_agg, toL_tup, toL_ptr, toL_fn, toI_int, toB_bool, AStore.toL, AStore.fold, ANode.toL, AAlc.toL, ARes.toL, ARes.eta, encL_toL, hnl, hge', hlt, hge, hn0, hAddR]
        rw [hL]
        refine ⟨fun hc => ?_, fun h1 h2 h3 => ?_⟩
        · rw [if_neg]
          · exact ⟨rfl, rfl⟩
          intro hh
          simp only [fitsR, Bool.and_eq_true, decide_eq_true_eq] at hh
          obtain ⟨⟨p, q⟩, r⟩ := hh
          rcases hc with (hc | hc) | hc
          · rw [hc] at p; cases p
          · omega
          · omega
        · rw [if_pos]
          · exact ⟨rfl, rfl⟩
          · simp only [fitsR, Bool.and_eq_true, decide_eq_true_eq]
            exact ⟨⟨h1, h2⟩, h3⟩
      · obtain ⟨hlt', hge'⟩ := List.getElem?_eq_some_iff.1 hx'
        have hw := next64 hl.1 hlt'
        rw [drop_some hx', moreF] at hf
        have nx : ∀ (e1 e2 e3 e4 : D) (r : List D) (u' v' : Int), moreF node (more.drop (m + 1)) ⟨u', v'⟩ = usedM s more node →
            (∃ k : Nat, I (.list (e1 :: e2 :: .int .i64 ((m : Int) + 1) :: .int .i64 u' :: .int .i64 v' :: r)) 2 = k ∧ k ≤ more.length ∧ moreF node (more.drop k) ⟨I (.list (e1 :: e2 :: .int .i64 ((m : Int) + 1) :: .int .i64 u' :: .int .i64 v' :: r)) 3, I (.list (e1 :: e2 :: .int .i64 ((m : Int) + 1) :: .int .i64 u' :: .int .i64 v' :: r)) 4⟩ = usedM s more node) ∧
            FM more 2 (e1 :: e2 :: .int .i64 ((m : Int) + 1) :: .int .i64 u' :: .int .i64 v' :: r) < FM more 2 (e3 :: e4 :: .int .i64 m :: .int .i64 u :: .int .i64 v :: r) := by
          intro e1 e2 e3 e4 r u' v' h
          refine ⟨⟨m + 1, rfl, hlt', h⟩, ?_⟩
          show more.length - ((m : Int) + 1).toNat < more.length - (m : Int).toNat
          omega
        simp [updV, den, U.den, B.den, upd, condB, toL_list, toL_agg, toL_tup, toL_ptr, toL_fn, toI_int, toB_bool, AStore.toL, AStore.fold, ANode.toL, AAlc.toL, ARes.toL, ARes.eta, encL_toL, hge', hlt', Nat.not_le.2 hlt', hw, hAddR]
        refine ⟨fun hc => ?_, fun h1 => ⟨fun h4 => ?_, fun h4 => ?_⟩⟩
        · rw [if_pos (by simpa using hc)] at hf
          exact nx _ _ _ _ _ _ _ hf
        · rw [if_neg (by simp [h1]), if_neg (by simp [h4])] at hf
          simp [leftR, h2, ← hf]
        · rw [if_neg (by simp [h1]), if_pos h4] at hf
          exact nx _ _ _ _ _ _ _ hf
theorem con16 : Con Try.prog pre phi tb16 := con_cons c16 con8

theorem c9 : PureFn Try.prog 9 s9 (pre 9) (phi 9) := by
  refine pureFn_auto (given := []) mix con16 Try.func9 (by kernel_rfl) (v := vc9) (by kernel_rfl) ?_
  intro ds h hp
  obtain ⟨_, _, rfl, gs, _, _, rfl, gm, _, _, rfl, ⟨node, rfl, _⟩, _, _, rfl, ga, rfl⟩ := h
  obtain ⟨s, rfl, hs⟩ := AStore.cases gs
  obtain ⟨more, rfl, hl, hm⟩ := AAlc.cases_l gm
  obtain ⟨ask, rfl, ha⟩ := ARes.cases ga
  have hR : phi 9 [s.enc, encL AAlc.enc more, .int .i64 node, ask.enc] = .bool (leftR s more node ask).2 := hMayR s more node ask
  simp [vc9, vh_obl, vh_call, vh_room, vh_branch, vh_loop, vh_again, vh_ret, pre, updV, den, U.den, B.den, upd, condB, toL_list, toL_agg, toL_tup, toL_ptr, toL_fn, toI_int, toB_bool, AStore.toL, AStore.fold, ANode.toL, AAlc.toL, ARes.toL, ARes.eta, encL_toL, hLeft, hR]
theorem con9 : Con Try.prog pre phi tb9 := con_cons c9 con16


theorem may_left (s : AStore) (more : List AAlc) (n : Int) (ask : ARes) : may s more n ask = (leftR s more n ask).2 := by
  unfold may leftR
  cases nodeO s n with
  | none => rfl
  | some x => simp only []; split <;> simp_all
theorem node_mem {s : AStore} {y : ANode} (h : y ∈ s.Nodes) : ∃ (n : Nat) (x : ANode), nodeI s y.ID = n ∧ s.Nodes[n]? = some x ∧ nodeO s y.ID = some x ∧ x.ID = y.ID := by
  rcases node_cases s y.ID with ⟨_, h2⟩ | h2
  · have := List.find?_eq_none.1 h2 y h
    simp at this
  · exact h2
theorem better_irr (c : Int × Int) : better c c = false := by simp [better]
def BJ (s : AStore) (more : List AAlc) (ask : ARes) (xs : List D) : Prop := ∃ (n : Nat) (b : Option (Int × Int)), xs = [encO b, .int .i64 n] ∧ n ≤ s.Nodes.length ∧ bestF s more ask (s.Nodes.drop n) b = bestF s more ask s.Nodes none
theorem bestF_next {s : AStore} {more : List AAlc} {ask : ARes} {n : Nat} {b0 b' : Option (Int × Int)} (hlt : n < s.Nodes.length) (h : bestF s more ask (s.Nodes.drop (n + 1)) b' = bestF s more ask s.Nodes none) :
    BJ s more ask [encO b', .int .i64 ((n : Int) + 1)] ∧ FM s.Nodes 1 [encO b', .int .i64 ((n : Int) + 1)] < FM s.Nodes 1 [encO b0, .int .i64 n] := by
  refine ⟨⟨n + 1, b', rfl, hlt, h⟩, ?_⟩
  show s.Nodes.length - ((n : Int) + 1).toNat < s.Nodes.length - (n : Int).toNat
  omega
theorem bestR_of {s : AStore} {more : List AAlc} {ask : ARes} {b : Option (Int × Int)} (h : b = bestF s more ask s.Nodes none) : bestR s more ask = optR b := by
  rw [h]; rfl
def RJ (s : AStore) (more : List AAlc) (ask : ARes) (xs : List D) : Prop := ∃ (n : Nat) (b l : Int) (f : Bool), xs = [.int .i64 b, .int .i64 l, .bool f, .int .i64 n] ∧ n ≤ s.Nodes.length ∧ rbestF s more ask (s.Nodes.drop n) b l f = rbestF s more ask s.Nodes 0 0 false
theorem rbestF_next {s : AStore} {more : List AAlc} {ask : ARes} {n : Nat} {b' l' b l : Int} {f' f : Bool} (hlt : n < s.Nodes.length) (h : rbestF s more ask (s.Nodes.drop (n + 1)) b' l' f' = rbestF s more ask s.Nodes 0 0 false) :
    RJ s more ask [.int .i64 b', .int .i64 l', .bool f', .int .i64 ((n : Int) + 1)] ∧ FM s.Nodes 3 [.int .i64 b', .int .i64 l', .bool f', .int .i64 ((n : Int) + 1)] < FM s.Nodes 3 [.int .i64 b, .int .i64 l, .bool f, .int .i64 n] := by
  refine ⟨⟨n + 1, b', l', f', rfl, hlt, h⟩, ?_⟩
  show s.Nodes.length - ((n : Int) + 1).toNat < s.Nodes.length - (n : Int).toNat
  omega
def CJ (s : AStore) (xs : List D) : Prop := ∃ (n : Nat) (k : Bool), xs = [.bool k, .int .i64 n] ∧ n ≤ s.Nodes.length ∧ ((s.Nodes.drop n).all fun c => decide (c.CPU ≤ K61) && decide (c.Mem ≤ K61)) = capsB s
theorem encO_cases {d : D} (h : Has (.ptr (.ofL [.int .i64, .int .i64])) d) : ∃ b : Option (Int × Int), d = encO b := by
  rcases h with rfl | ⟨_, rfl, _, _, rfl, ⟨x, rfl, _⟩, _, _, rfl, ⟨y, rfl, _⟩, rfl⟩
  · exact ⟨none, rfl⟩
  · exact ⟨some (x, y), rfl⟩
theorem c10 : PureFn Try.prog 10 s10 (pre 10) (phi 10) := by
  refine pureFn_auto (given := []) mix con9 Try.func10 (by kernel_rfl) (v := vc10) (by kernel_rfl) ?_
  intro ds h hp
  obtain ⟨_, _, rfl, gs, _, _, rfl, gm, _, _, rfl, ga, rfl⟩ := h
  obtain ⟨s, rfl, hs⟩ := AStore.cases gs
  obtain ⟨more, rfl, hl, hm⟩ := AAlc.cases_l gm
  obtain ⟨ask, rfl, ha⟩ := ARes.cases ga
  have hR : phi 10 [s.enc, encL AAlc.enc more, ask.enc] = .tup [.int .i64 (bestR s more ask).1, .bool (bestR s more ask).2] := hBest s more ask
  simp only [vc10, vh_obl, vh_call, vh_room, vh_branch, vh_loop, vh_again, vh_ret, pre, implies_true, true_and]
  refine LoopOk.intro (BJ s more ask) (FM s.Nodes 1) ⟨0, none, rfl, Nat.zero_le _, rfl⟩ ?_
  rintro xs hxs ⟨n, b, rfl, hle, hf⟩
  rcases hx : s.Nodes[n]? with _ | x
  · have hge := ge_none hx
    rw [drop_none hx, bestF] at hf
    have hB := bestR_of hf
    have hnl : ¬ (n < s.Nodes.length) := by omega
    cases b <;> simp [updV, den, U.den, B.den, upd, condB, toL_list, toL_agg, toL_tup, toL_ptr, toL_fn, toI_int, toB_bool, AStore.toL, AStore.fold, ANode.toL, AAlc.toL, ARes.toL, ARes.eta, encL_toL, hge, hnl, encO, D.isNilp, hR, hB, optR]
  · obtain ⟨hlt, hge⟩ := List.getElem?_eq_some_iff.1 hx
    have hw := next64 hs.Nodes.1.1 hlt
    rw [drop_some hx, bestF] at hf
    obtain ⟨k, y, h1, h2, h3, h4⟩ := node_mem (mem_some hx)
    obtain ⟨hlt2, hge2⟩ := List.getElem?_eq_some_iff.1 h2
    have hk : (0 : Int) ≤ k := by omega
    simp [updV, den, U.den, B.den, upd, condB, toL_list, toL_agg, toL_tup, toL_ptr, toL_fn, toI_int, toB_bool, AStore.toL, AStore.fold, ANode.toL, AAlc.toL, ARes.toL, ARes.eta, encL_toL, hge, hlt, Nat.not_le.2 hlt, hw, hMay, hNode, h1, hk, hlt2, hge2, hUsedM]
    cases hmy : may s more x.ID ask with
    | false =>
      rw [if_neg (by simp [hmy])] at hf
      simpa using bestF_next hlt hf
    | true =>
      rw [if_pos hmy] at hf
      simp only [h3, Option.getD_some] at hf
      have hlft : IntKind.i64.wrap (IntKind.i64.wrap (IntKind.i64.wrap (y.CPU - (usedM s more y.ID).1.CPU) - ask.CPU) + IntKind.i64.wrap (IntKind.i64.wrap (y.Mem - (usedM s more y.ID).1.Mem) - ask.Mem)) = lft s more ask y := rfl
      simp only [hlft]
      cases b with
      | none =>
        have := bestF_next (b0 := none) hlt hf
        simpa [encO, D.isNilp, pickB] using this
      | some d =>
        cases hb : better (y.ID, lft s more ask y) d with
        | true =>
          simp only [pickB, hb, if_true] at hf
          have := bestF_next (b0 := some d) hlt hf
          simp only [better, Bool.or_eq_true, Bool.and_eq_true, decide_eq_true_eq, beq_iff_eq] at hb
          simp [encO, D.isNilp, updV, den, U.den, B.den, upd, condB, toL_list, toL_agg, toL_tup, toL_ptr, toL_fn, toI_int, toB_bool] at this ⊢
          refine ⟨fun _ => this, fun q1 q2 => ?_⟩
          rcases hb with hb | ⟨hb1, hb2⟩
          · omega
          · have := q2 hb1; omega
        | false =>
          simp only [pickB, hb, Bool.false_eq_true, if_false] at hf
          have := bestF_next (b0 := some d) hlt hf
          simp only [better, Bool.or_eq_false_iff, Bool.and_eq_false_iff, decide_eq_false_iff_not, beq_eq_false_iff_ne] at hb
          simp [encO, D.isNilp, updV, den, U.den, B.den, upd, condB, toL_list, toL_agg, toL_tup, toL_ptr, toL_fn, toI_int, toB_bool] at this ⊢
          refine ⟨fun q => ?_, fun _ _ => this⟩
          rcases q with q | ⟨q1, q2⟩
          · omega
          · rcases hb.2 with hb2 | hb2
            · exact absurd q1 hb2
            · omega
theorem con10 : Con Try.prog pre phi tb10 := con_cons c10 con9

theorem c11 : PureFn Try.prog 11 s11 (pre 11) (phi 11) := by
  refine pureFn_auto (given := []) mix con10 Try.func11 (by kernel_rfl) (v := vc11) (by kernel_rfl) ?_
  intro ds h hp
  obtain ⟨_, _, rfl, gs, _, _, rfl, gm, _, _, rfl, ga, rfl⟩ := h
  obtain ⟨s, rfl, hs⟩ := AStore.cases gs
  obtain ⟨more, rfl, hl, hm⟩ := AAlc.cases_l gm
  obtain ⟨ask, rfl, ha⟩ := ARes.cases ga
  have hR : phi 11 [s.enc, encL AAlc.enc more, ask.enc] = .tup [.int .i64 (rbestF s more ask s.Nodes 0 0 false).1, .bool (rbestF s more ask s.Nodes 0 0 false).2] := hBestR s more ask
  simp only [vc11, vh_obl, vh_call, vh_room, vh_branch, vh_loop, vh_again, vh_ret, pre, implies_true, true_and]
  refine LoopOk.intro (RJ s more ask) (FM s.Nodes 3) ⟨0, 0, 0, false, rfl, Nat.zero_le _, rfl⟩ ?_
  rintro xs hxs ⟨n, b, l, f, rfl, hle, hf⟩
  rcases hx : s.Nodes[n]? with _ | x
  · have hge := ge_none hx
    rw [drop_none hx, rbestF] at hf
    have hnl : ¬ (n < s.Nodes.length) := by omega
    simp [updV, den, U.den, B.den, upd, condB, toL_list, toL_agg, toL_tup, toL_ptr, toL_fn, toI_int, toB_bool, AStore.toL, AStore.fold, ANode.toL, AAlc.toL, ARes.toL, ARes.eta, encL_toL, hge, hnl, hR, ← hf]
  · obtain ⟨hlt, hge⟩ := List.getElem?_eq_some_iff.1 hx
    have hw := next64 hs.Nodes.1.1 hlt
    rw [drop_some hx, rbestF] at hf
    simp [updV, den, U.den, B.den, upd, condB, toL_list, toL_agg, toL_tup, toL_ptr, toL_fn, toI_int, toB_bool, AStore.toL, AStore.fold, ANode.toL, AAlc.toL, ARes.toL, ARes.eta, encL_toL, hge, hlt, Nat.not_le.2 hlt, hw, hLeft]
    generalize leftR s more x.ID ask = q at hf
    obtain ⟨q, t⟩ := q
    cases t with
    | false => simpa using rbestF_next hlt (by simpa using hf)
    | true =>
      by_cases hc : (!f || decide (q < l) || (q == l && decide (x.ID < b))) = true
      · have := rbestF_next (b := b) (l := l) (f := f) hlt (b' := x.ID) (l' := q) (f' := true) (by simpa [hc] using hf)
        simp at hc ⊢
        refine ⟨fun _ => this, fun h1 h2 h3 => ?_⟩
        rcases hc with (hc | hc) | hc
        · simp [hc] at h1
        · omega
        · have := h3 hc.1; omega
      · have := rbestF_next (b := b) (l := l) (f := f) hlt (b' := b) (l' := l) (f' := f) (by simpa [hc] using hf)
        simp at hc ⊢
        refine ⟨fun h1 => ?_, fun _ _ _ => this⟩
        rcases h1 with (h1 | h1) | h1
        · simp [h1] at hc
        · have := hc.1.2; omega
        · have := hc.2 h1.1; omega
theorem con11 : Con Try.prog pre phi tb11 := con_cons c11 con10

theorem c12 : PureFn Try.prog 12 s12 (pre 12) (phi 12) := by
  refine pureFn_auto (given := []) mix con11 Try.func12 (by kernel_rfl) (v := vc12) (by kernel_rfl) ?_
  intro ds h hp
  obtain ⟨_, _, rfl, gs, _, _, rfl, ⟨node, rfl, _⟩, rfl⟩ := h
  obtain ⟨s, rfl, hs⟩ := AStore.cases gs
  have hR : phi 12 [s.enc, .int .i64 node] = .int .i64 (leftNow s node) := hLeftNow s node
  have hp' : nodeO s node ≠ none := by simpa [pre, AStore.dec_enc, toI_int] using hp
  rcases node_cases s node with ⟨_, h2⟩ | ⟨n, x, h1, hx, h2, h3⟩
  · exact absurd h2 hp'
  obtain ⟨hlt, hge⟩ := List.getElem?_eq_some_iff.1 hx
  have hX : (used s node).enc.toL = [.int .i64 (used s node).CPU, .int .i64 (used s node).Mem] := rfl
  simp [vc12, vh_obl, vh_call, vh_room, vh_branch, vh_loop, vh_again, vh_ret, pre, updV, den, U.den, B.den, upd, condB, toL_list, toL_agg, toL_tup, toL_ptr, toL_fn, toI_int, toB_bool, AStore.toL, AStore.fold, ANode.toL, AAlc.toL, ARes.toL, ARes.eta, encL_toL, hNodeR, hUsedR, h1, hlt, hge, hR, leftNow, h2, W]
theorem con12 : Con Try.prog pre phi tb12 := con_cons c12 con11

theorem c6 : PureFn Try.prog 6 s6 (pre 6) (phi 6) := by
  refine pureFn_auto (given := []) mix con12 Try.func6 (by kernel_rfl) (v := vc6) (by kernel_rfl) ?_
  intro ds h hp
  obtain ⟨_, _, rfl, gs, rfl⟩ := h
  obtain ⟨s, rfl, hs⟩ := AStore.cases gs
  have hR : phi 6 [s.enc] = .bool (capsB s) := hCaps s
  simp only [vc6, vh_obl, vh_call, vh_room, vh_branch, vh_loop, vh_again, vh_ret, pre, implies_true, true_and]
  refine LoopOk.intro (CJ s) (FM s.Nodes 1) ⟨0, false, rfl, Nat.zero_le _, rfl⟩ ?_
  rintro xs hxs ⟨n, k, rfl, hle, hf⟩
  rcases hx : s.Nodes[n]? with _ | x
  · have hge := ge_none hx
    rw [drop_none hx] at hf
    have hnl : ¬ (n < s.Nodes.length) := by omega
    simp [updV, den, U.den, B.den, upd, condB, toL_list, toL_agg, toL_tup, toL_ptr, toL_fn, toI_int, toB_bool, AStore.toL, AStore.fold, ANode.toL, AAlc.toL, ARes.toL, ARes.eta, encL_toL, hge, hnl, hR, ← hf]
  · obtain ⟨hlt, hge⟩ := List.getElem?_eq_some_iff.1 hx
    have hw := next64 hs.Nodes.1.1 hlt
    rw [drop_some hx, List.all_cons] at hf
    simp [updV, den, U.den, B.den, upd, condB, toL_list, toL_agg, toL_tup, toL_ptr, toL_fn, toI_int, toB_bool, AStore.toL, AStore.fold, ANode.toL, AAlc.toL, ARes.toL, ARes.eta, encL_toL, hge, hlt, Nat.not_le.2 hlt, hw, hR]
    refine ⟨fun hc => ?_, fun h1 h2 => ⟨⟨n + 1, k, by simp, hlt, ?_⟩, ?_⟩⟩
    · rw [← hf]
      have : (decide (x.CPU ≤ K61) && decide (x.Mem ≤ K61)) = false := by
        rw [Bool.and_eq_false_iff]
        rcases hc with hc | hc
        · exact .inl (decide_eq_false (by simp only [K61]; omega))
        · exact .inr (decide_eq_false (by simp only [K61]; omega))
      simp [this]
    · rw [← hf]
      have : (decide (x.CPU ≤ K61) && decide (x.Mem ≤ K61)) = true := by
        rw [Bool.and_eq_true]
        exact ⟨decide_eq_true h1, decide_eq_true h2⟩
      simp [this]
    · show s.Nodes.length - ((n : Int) + 1).toNat < s.Nodes.length - (n : Int).toNat
      omega
theorem con6 : Con Try.prog pre phi tb6 := con_cons c6 con12

end Go.Proofs.Ytkmgkdaedjdeeaa
