/-
  What each function of this seat computes, and that it keeps to it (D).
-/
import Derived.Test.YtkmgkdaedjdeeaaCB
set_option linter.unusedSimpArgs false
set_option linter.unusedVariables false
namespace Go.Proofs.Ytkmgkdaedjdeeaa
open Go Go.Eng Go.Proofs


theorem addR_true {x y : ARes} (h : (addR x y).2 = true) : sumOk x y = true ∧ (addR x y).1 = ⟨x.CPU + y.CPU, x.Mem + y.Mem⟩ := by
  unfold addR at *
  split at h
  · rename_i hs; exact ⟨hs, by rw [if_pos hs]⟩
  · cases h
theorem fitsR_iff {u a m : ARes} : fitsR u a m = true ↔ (0 ≤ u.CPU ∧ 0 ≤ u.Mem ∧ 0 ≤ a.CPU ∧ 0 ≤ a.Mem ∧ u.CPU + a.CPU ≤ M ∧ u.Mem + a.Mem ≤ M ∧ u.CPU + a.CPU ≤ m.CPU ∧ u.Mem + a.Mem ≤ m.Mem) := by
  unfold fitsR
  constructor
  · intro h
    simp only [Bool.and_eq_true, decide_eq_true_eq] at h
    obtain ⟨⟨h1, h2⟩, h3⟩ := h
    obtain ⟨h4, h5⟩ := addR_true h1
    rw [h5] at h2 h3
    have := sumOk_iff.1 h4
    simp only at h2 h3
    omega
  · intro h
    have hs : sumOk u a = true := sumOk_iff.2 (by omega)
    simp only [addR, if_pos hs, Bool.true_and, Bool.and_eq_true, decide_eq_true_eq]
    omega
theorem may_iff {s : AStore} {more : List AAlc} {n : Int} {ask : ARes} : may s more n ask = true ↔ ∃ x, nodeO s n = some x ∧ openN x = true ∧ (usedM s more n).2 = true ∧ fitsR (usedM s more n).1 ask ⟨x.CPU, x.Mem⟩ = true := by
  unfold may
  cases nodeO s n with
  | none => simp
  | some x => simp only [Bool.and_eq_true, Option.some.injEq, exists_eq_left', and_assoc]
theorem caps_mem {s : AStore} (h : capsB s = true) {n : Int} {x : ANode} (hx : nodeO s n = some x) : x.CPU ≤ K61 ∧ x.Mem ≤ K61 := by
  have := List.all_eq_true.1 h x (List.mem_of_find?_eq_some hx)
  simpa using this
/-- What is left on a node where a demand may be placed. -/
theorem lft_eq {s : AStore} (hc : capsB s = true) {more : List AAlc} {n : Int} {ask : ARes} {x : ANode} (hx : nodeO s n = some x) (hm : may s more n ask = true) :
    x.ID = n ∧ lft s more ask x = (x.CPU - (usedM s more n).1.CPU - ask.CPU) + (x.Mem - (usedM s more n).1.Mem - ask.Mem) ∧ (leftR s more n ask).1 = lft s more ask x ∧
    0 ≤ x.CPU - (usedM s more n).1.CPU - ask.CPU ∧ 0 ≤ x.Mem - (usedM s more n).1.Mem - ask.Mem ∧ 0 ≤ (usedM s more n).1.CPU ∧ 0 ≤ (usedM s more n).1.Mem ∧ 0 ≤ ask.CPU ∧ 0 ≤ ask.Mem ∧ x.CPU ≤ K61 ∧ x.Mem ≤ K61 := by
  have hid : x.ID = n := by simpa using List.find?_some hx
  obtain ⟨y, hy, ho, hu, hf⟩ := may_iff.1 hm
  rw [hx] at hy; injection hy with hy; subst hy
  obtain ⟨h1, h2⟩ := caps_mem hc hx
  have hf' := fitsR_iff.1 hf
  have hadd : (addR (usedM s more n).1 ask).1 = ⟨(usedM s more n).1.CPU + ask.CPU, (usedM s more n).1.Mem + ask.Mem⟩ := by
    simp only [fitsR, Bool.and_eq_true] at hf
    exact (addR_true hf.1.1).2
  have hL : leftR s more n ask = (W (W (x.CPU - ((usedM s more n).1.CPU + ask.CPU)) + W (x.Mem - ((usedM s more n).1.Mem + ask.Mem))), true) := by
    simp only [leftR, hx, ho, hu, hf, hadd, Bool.and_self, if_true]
  have hK : K61 = 2305843009213693952 := rfl
  simp only at hf'
  rw [hL]
  simp only [lft, hid]
  generalize (usedM s more n).1 = u at *
  have e1 : W (x.CPU - u.CPU) = x.CPU - u.CPU := W_id (by omega) (by omega)
  have e2 : W (x.Mem - u.Mem) = x.Mem - u.Mem := W_id (by omega) (by omega)
  have e3 : W (x.CPU - (u.CPU + ask.CPU)) = x.CPU - (u.CPU + ask.CPU) := W_id (by omega) (by omega)
  have e4 : W (x.Mem - (u.Mem + ask.Mem)) = x.Mem - (u.Mem + ask.Mem) := W_id (by omega) (by omega)
  rw [e1, e2, e3, e4]
  have e5 : W (x.CPU - u.CPU - ask.CPU) = x.CPU - u.CPU - ask.CPU := W_id (by omega) (by omega)
  have e6 : W (x.Mem - u.Mem - ask.Mem) = x.Mem - u.Mem - ask.Mem := W_id (by omega) (by omega)
  rw [e5, e6]
  have e7 : W (x.CPU - u.CPU - ask.CPU + (x.Mem - u.Mem - ask.Mem)) = x.CPU - u.CPU - ask.CPU + (x.Mem - u.Mem - ask.Mem) := W_id (by omega) (by omega)
  have e8 : W (x.CPU - (u.CPU + ask.CPU) + (x.Mem - (u.Mem + ask.Mem))) = x.CPU - (u.CPU + ask.CPU) + (x.Mem - (u.Mem + ask.Mem)) := W_id (by omega) (by omega)
  rw [e7, e8]
  refine ⟨trivial, rfl, by omega, by omega, by omega, by omega, by omega, by omega, by omega, by omega, by omega⟩
theorem best_eq_loop {s : AStore} (hc : capsB s = true) {more : List AAlc} {ask : ARes} : ∀ (l : List ANode), (∀ y ∈ l, y ∈ s.Nodes) → ∀ (b : Option (Int × Int)) (bn bl : Int) (f : Bool), (b = none ∧ f = false ∧ bn = 0 ∨ b = some (bn, bl) ∧ f = true) →
    optR (bestF s more ask l b) = rbestF s more ask l bn bl f
  | [], _, b, bn, bl, f, h => by
    rcases h with ⟨rfl, rfl, rfl⟩ | ⟨rfl, rfl⟩ <;> rfl
  | y :: l, hl, b, bn, bl, f, h => by
    have ih := best_eq_loop hc (more := more) (ask := ask) l (fun z hz => hl z (by simp [hz]))
    obtain ⟨_, x, _, _, hx, hid⟩ := node_mem (hl y (by simp))
    rw [bestF, rbestF, ← may_left]
    cases hm : may s more y.ID ask with
    | false => simp only [Bool.false_eq_true, if_false]; exact ih b bn bl f h
    | true =>
      obtain ⟨_, _, h3, _⟩ := lft_eq hc hx hm
      simp only [if_true, hx, Option.getD_some, hid, h3]
      rcases h with ⟨rfl, rfl, rfl⟩ | ⟨rfl, rfl⟩
      · simp only [pickB, Bool.not_false, Bool.true_or, if_true]
        exact ih _ _ _ _ (.inr ⟨rfl, rfl⟩)
      · have e : (!true || decide (lft s more ask x < bl) || (lft s more ask x == bl && decide (y.ID < bn))) = better (y.ID, lft s more ask x) (bn, bl) := by simp [better]
        rw [e]
        unfold pickB
        cases hb : better (y.ID, lft s more ask x) (bn, bl) with
        | true =>
          rw [if_pos rfl]
          exact ih _ _ _ _ (.inr ⟨by simp only [hb, if_true], rfl⟩)
        | false =>
          rw [if_neg (by simp)]
          exact ih _ _ _ _ (.inr ⟨by simp only [hb, Bool.false_eq_true, if_false], rfl⟩)
theorem best_eq {s : AStore} (hc : capsB s = true) (more : List AAlc) (ask : ARes) : bestR s more ask = rbestF s more ask s.Nodes 0 0 false :=
  best_eq_loop hc s.Nodes (fun _ h => h) none 0 0 false (.inl ⟨rfl, rfl, rfl⟩)
theorem moreF_append (node : Int) (a : AAlc) : ∀ (l : List AAlc) (x : ARes), moreF node (l ++ [a]) x = if (moreF node l x).2 then moreF node [a] (moreF node l x).1 else (⟨0, 0⟩, false)
  | [], x => by
    show moreF node [a] x = if true = true then moreF node [a] x else _
    rw [if_pos rfl]
  | b :: l, x => by
    simp only [List.cons_append, moreF]
    split
    · rw [moreF_append node a l x]; rfl
    · split
      · rw [moreF_append node a l _]; rfl
      · rfl
theorem may_less {s : AStore} {more : List AAlc} {a : AAlc} {n : Int} {ask : ARes} (h1 : 0 ≤ a.CPU) (h2 : 0 ≤ a.Mem) (h : may s (more ++ [a]) n ask = true) : may s more n ask = true := by
  obtain ⟨x, hx, ho, hu, hf⟩ := may_iff.1 h
  refine may_iff.2 ⟨x, hx, ho, ?_⟩
  simp only [usedM] at hu hf ⊢
  rw [moreF_append] at hu hf
  cases hm : (moreF n more (used s n)).2 with
  | false => simp [hm] at hu
  | true =>
    refine ⟨rfl, ?_⟩
    rw [if_pos hm] at hu hf
    simp only [moreF] at hu hf
    split at hf
    · exact hf
    · rename_i hne
      rw [if_neg hne] at hu
      split at hf
      · rename_i ha
        obtain ⟨h3, h4⟩ := addR_true ha
        rw [h4] at hf
        have := sumOk_iff.1 h3
        have := fitsR_iff.1 hf
        simp only at this
        exact fitsR_iff.2 (by simp only; omega)
      · rename_i hna
        rw [if_neg hna] at hu
        cases hu
theorem may_greater {s : AStore} {more : List AAlc} {n : Int} {ask : ARes} (h : may s more n ⟨ask.CPU + 1, ask.Mem⟩ = true) (h0 : 0 ≤ ask.CPU) : may s more n ask = true := by
  obtain ⟨x, hx, ho, hu, hf⟩ := may_iff.1 h
  refine may_iff.2 ⟨x, hx, ho, hu, ?_⟩
  have := fitsR_iff.1 hf
  exact fitsR_iff.2 (by simp only at this ⊢; omega)
def leC (c d : Int × Int) : Prop := c.2 < d.2 ∨ (c.2 = d.2 ∧ c.1 ≤ d.1)
theorem better_leC {c d : Int × Int} : (better c d = true → leC c d) ∧ (better c d = false → leC d c) := by
  unfold better leC
  constructor
  · intro h
    simp only [Bool.or_eq_true, Bool.and_eq_true, decide_eq_true_eq, beq_iff_eq] at h
    omega
  · intro h
    simp only [Bool.or_eq_false_iff, Bool.and_eq_false_iff, decide_eq_false_iff_not, beq_eq_false_iff_ne] at h
    omega
theorem leC_trans {a b c : Int × Int} (h : leC a b) (k : leC b c) : leC a c := by unfold leC at *; omega
theorem leC_refl (a : Int × Int) : leC a a := .inr ⟨rfl, Int.le_refl _⟩
theorem pickB_le (b : Option (Int × Int)) (c : Int × Int) : leC (pickB b c) c ∧ (∀ d, b = some d → leC (pickB b c) d) ∧ (pickB b c = c ∨ b = some (pickB b c)) := by
  cases b with
  | none => exact ⟨leC_refl _, by simp, .inl rfl⟩
  | some d =>
    simp only [pickB]
    split
    · rename_i h
      refine ⟨leC_refl _, fun e he => ?_, .inl rfl⟩
      injection he with he; subst he
      exact better_leC.1 h
    · rename_i h
      refine ⟨better_leC.2 (by simpa using h), fun e he => ?_, .inr rfl⟩
      injection he with he; subst he
      exact leC_refl _
/-- The best of some, from one on. -/
theorem bestF_spec {s : AStore} {more : List AAlc} {ask : ARes} : ∀ (l : List ANode), (∀ y ∈ l, y ∈ s.Nodes) → ∀ (b : Option (Int × Int)),
    (bestF s more ask l b = none → b = none ∧ ∀ y ∈ l, may s more y.ID ask = false) ∧
    ∀ c, bestF s more ask l b = some c → (b = some c ∨ ∃ y ∈ l, ∃ x, nodeO s y.ID = some x ∧ may s more y.ID ask = true ∧ c = (y.ID, lft s more ask x)) ∧ (∀ d, b = some d → leC c d) ∧
      ∀ y ∈ l, ∀ x, nodeO s y.ID = some x → may s more y.ID ask = true → leC c (y.ID, lft s more ask x)
  | [], _, b => by
    refine ⟨fun h => ⟨h, by simp⟩, fun c h => ⟨.inl h, fun d hd => ?_, by simp⟩⟩
    rw [bestF] at h
    rw [h] at hd; injection hd with hd; subst hd
    exact leC_refl _
  | y :: l, hl, b => by
    have hl' : ∀ z ∈ l, z ∈ s.Nodes := fun z hz => hl z (by simp [hz])
    obtain ⟨_, x, _, _, hx, hid⟩ := node_mem (hl y (by simp))
    rw [bestF]
    cases hm : may s more y.ID ask with
    | false =>
      simp only [Bool.false_eq_true, if_false]
      obtain ⟨h1, h2⟩ := bestF_spec (more := more) (ask := ask) l hl' b
      refine ⟨fun h => ⟨(h1 h).1, ?_⟩, fun c h => ?_⟩
      · simp only [List.mem_cons, forall_eq_or_imp]; exact ⟨hm, (h1 h).2⟩
      · obtain ⟨h3, h4, h5⟩ := h2 c h
        refine ⟨h3.imp id fun ⟨z, hz, r⟩ => ⟨z, by simp [hz], r⟩, h4, ?_⟩
        simp only [List.mem_cons, forall_eq_or_imp]
        exact ⟨fun x _ h => (by rw [hm] at h; cases h), h5⟩
    | true =>
      simp only [if_true, hx, Option.getD_some, hid]
      obtain ⟨h1, h2⟩ := bestF_spec (more := more) (ask := ask) l hl' (some (pickB b (y.ID, lft s more ask x)))
      obtain ⟨p1, p2, p3⟩ := pickB_le b (y.ID, lft s more ask x)
      refine ⟨fun h => (by have := (h1 h).1; cases this), fun c h => ?_⟩
      obtain ⟨h3, h4, h5⟩ := h2 c h
      have h6 := h4 _ rfl
      refine ⟨?_, fun d hd => leC_trans h6 (p2 d hd), ?_⟩
      · rcases h3 with h3 | ⟨z, hz, r⟩
        · injection h3 with h3
          rcases p3 with p3 | p3
          · exact .inr ⟨y, by simp, x, hx, hm, h3.symm.trans p3⟩
          · exact .inl (p3.trans (by rw [h3]))
        · exact .inr ⟨z, by simp [hz], r⟩
      · simp only [List.mem_cons, forall_eq_or_imp]
        refine ⟨fun x' hx' _ => ?_, h5⟩
        rw [hx] at hx'; injection hx' with hx'; subst hx'
        exact leC_trans h6 p1
theorem best_may {s : AStore} {more : List AAlc} {ask : ARes} (h : (bestR s more ask).2 = true) : may s more (bestR s more ask).1 ask = true := by
  unfold bestR at *
  cases hb : bestF s more ask s.Nodes none with
  | none => rw [hb] at h; cases h
  | some c =>
    obtain ⟨h3, _⟩ := (bestF_spec (more := more) (ask := ask) s.Nodes (fun _ h => h) none).2 c hb
    rcases h3 with h3 | ⟨y, _, x, _, hm, rfl⟩
    · cases h3
    · exact hm
theorem best_none {s : AStore} {more : List AAlc} {ask : ARes} (h : (bestR s more ask).2 = false) : ∀ y ∈ s.Nodes, may s more y.ID ask = false := by
  unfold bestR at *
  cases hb : bestF s more ask s.Nodes none with
  | none => exact ((bestF_spec (more := more) (ask := ask) s.Nodes (fun _ h => h) none).1 hb).2
  | some c => rw [hb] at h; cases h
theorem leftNow_eq {s : AStore} (hc : capsB s = true) {n : Int} {ask : ARes} {x : ANode} (hx : nodeO s n = some x) (hm : may s [] n ask = true) : leftNow s n = lft s [] ask x + (ask.CPU + ask.Mem) := by
  obtain ⟨_, h2, _, h4, h5, h6, h7, h8, h9, h10, h11⟩ := lft_eq hc hx hm
  rw [h2]
  have hu : usedM s [] n = (used s n, true) := rfl
  rw [hu] at h4 h5 h6 h7 ⊢
  simp only at h4 h5 h6 h7 ⊢
  have hK : K61 = 2305843009213693952 := rfl
  simp only [leftNow, hx]
  have e1 : W (x.CPU - (used s n).CPU) = x.CPU - (used s n).CPU := W_id (by omega) (by omega)
  have e2 : W (x.Mem - (used s n).Mem) = x.Mem - (used s n).Mem := W_id (by omega) (by omega)
  rw [e1, e2, W_id (by omega) (by omega)]
  omega
theorem best_least {s : AStore} (hc : capsB s = true) {ask : ARes} (h : (bestR s [] ask).2 = true) {y : ANode} (hy : y ∈ s.Nodes) (hm : may s [] y.ID ask = true) :
    ¬ (leftNow s y.ID < leftNow s (bestR s [] ask).1) ∧ (leftNow s y.ID = leftNow s (bestR s [] ask).1 → (bestR s [] ask).1 ≤ y.ID) := by
  have hb' := best_may h
  unfold bestR at h hb' ⊢
  cases hb : bestF s [] ask s.Nodes none with
  | none => rw [hb] at h; cases h
  | some c =>
    rw [hb] at hb'
    obtain ⟨h3, _, h5⟩ := (bestF_spec (more := []) (ask := ask) s.Nodes (fun _ h => h) none).2 c hb
    rcases h3 with h3 | ⟨z, hz, x, hx, hmz, rfl⟩
    · cases h3
    · obtain ⟨_, x', _, _, hx', _⟩ := node_mem hy
      have h6 := h5 y hy x' hx' hm
      simp only [optR]
      rw [leftNow_eq hc hx' hm, leftNow_eq hc hx hmz]
      unfold leC at h6
      simp only at h6
      omega
theorem cat_enc (l : List AAlc) (a : AAlc) : D.list (l.map AAlc.enc ++ [a.enc]) = encL AAlc.enc (l ++ [a]) := by simp [encL]
/-- A loop that counts. -/
def NJ (lo hi : Int) (k : Nat) (xs : List D) : Prop := lo ≤ I (.list xs) k ∧ I (.list xs) k ≤ hi
def NM (hi : Int) (k : Nat) (xs : List D) : Nat := (hi - I (.list xs) k).toNat
theorem NJ.next {lo hi : Int} {k : Nat} {xs xs' : List D} {n : Int} (h : NJ lo hi k xs) (h0 : I (.list xs) k = n) (h1 : I (.list xs') k = n + 1) (hn : n < hi) : NJ lo hi k xs' ∧ NM hi k xs' < NM hi k xs := by
  unfold NJ at *
  unfold NM
  rw [h0] at h
  rw [h0, h1]
  exact ⟨⟨by omega, by omega⟩, by omega⟩
theorem c7 : PureFn Try.prog 7 s7 (pre 7) (phi 7) := by
  refine pureFn_auto (given := []) mix con6 Try.func7 (by kernel_rfl) (v := vc7) (by kernel_rfl) ?_
  intro ds h hp
  obtain rfl := h
  simp only [vc7, vh_obl, vh_call, vh_room, vh_branch, vh_loop, vh_again, vh_ret, pre, implies_true, true_and]
  kernel_rfl
theorem con7 : Con Try.prog pre phi tb7 := con_cons c7 con6

theorem c3 : PureFn Try.prog 3 s3 (pre 3) (phi 3) := by
  refine pureFn_auto (given := []) mix con7 Try.func3 (by kernel_rfl) (v := vc3) (by kernel_rfl) ?_
  intro ds h hp
  obtain ⟨_, _, rfl, gs, _, _, rfl, gm, _, _, rfl, ga, rfl⟩ := h
  obtain ⟨s, rfl, hs⟩ := AStore.cases gs
  obtain ⟨more, rfl, hl, hm⟩ := AAlc.cases_l gm

  obtain ⟨ask, rfl, ha⟩ := ARes.cases ga
  have hR : ∀ l, phi 3 l = .bool true := fun _ => rfl
  simp only [vc3, vh_obl, vh_call, vh_room, vh_branch, vh_loop, vh_again, vh_ret, pre, implies_true, true_and]
  simp [updV, den, U.den, B.den, upd, condB, toL_list, toL_agg, toL_tup, toL_ptr, toL_fn, toI_int, toB_bool, AStore.toL, AStore.fold, ANode.toL, AAlc.toL, ARes.toL, ARes.eta, encL_toL, hCaps, hLives, hR]
  intro hc
  refine LoopOk.intro (NJ (-1) 6 1) (NM 6 1) ⟨Int.le_refl _, (by show (-1 : Int) ≤ 6; omega)⟩ ?_
  intro xs hxs hJ
  obtain ⟨_, _, rfl, ⟨k, rfl⟩, _, _, rfl, ⟨n, rfl, hn⟩, rfl⟩ := hxs
  have hJ' : -1 ≤ n ∧ n ≤ 6 := hJ
  simp [updV, den, U.den, B.den, upd, condB, toL_list, toL_agg, toL_tup, toL_ptr, toL_fn, toI_int, toB_bool, AStore.toL, AStore.fold, ANode.toL, AAlc.toL, ARes.toL, ARes.eta, encL_toL, hMay, hMayR, hBest, hBestR, hLives, best_eq hc, may_left]
  intro h5
  rw [wrap64 (by omega) (by omega)]
  exact NJ.next (n := n) hJ rfl rfl (by omega)
theorem con3 : Con Try.prog pre phi tb3 := con_cons c3 con7

theorem c4 : PureFn Try.prog 4 s4 (pre 4) (phi 4) := by
  refine pureFn_auto (given := []) mix con3 Try.func4 (by kernel_rfl) (v := vc4) (by kernel_rfl) ?_
  intro ds h hp
  obtain ⟨_, _, rfl, gs, _, _, rfl, gm, _, _, rfl, ga, rfl⟩ := h
  obtain ⟨s, rfl, hs⟩ := AStore.cases gs
  obtain ⟨more, rfl, hl, hm⟩ := AAlc.cases_l gm

  obtain ⟨y, rfl, hy, hya⟩ := AMore.cases ga
  have hp' : more.length * 88 ≤ 140737488355328 - 4096 := by simpa [pre, encL_toL] using hp
  have hR : ∀ l, phi 4 l = .bool true := fun _ => rfl
  simp only [vc4, vh_obl, vh_call, vh_room, vh_branch, vh_loop, vh_again, vh_ret, pre, implies_true, true_and]
  have hY := AMore.toL y
  simp [updV, den, U.den, B.den, upd, condB, toL_list, toL_agg, toL_tup, toL_ptr, toL_fn, toI_int, toB_bool, AStore.toL, AStore.fold, AAlc.fold, encL_toL, hCaps, hLives, hR, hY, cat_enc]
  intro hc h1 h2
  refine ⟨hl, ⟨by simp only [maxLen]; omega, by omega⟩, ?_⟩
  refine LoopOk.intro (NJ 0 6 1) (NM 6 1) ⟨Int.le_refl _, (by show (0 : Int) ≤ 6; omega)⟩ ?_
  intro xs hxs hJ
  obtain ⟨_, _, rfl, ⟨k, rfl⟩, _, _, rfl, ⟨n, rfl, hn⟩, rfl⟩ := hxs
  have hJ' : 0 ≤ n ∧ n ≤ 6 := hJ
  simp [updV, den, U.den, B.den, upd, condB, toL_list, toL_agg, toL_tup, toL_ptr, toL_fn, toI_int, toB_bool, ARes.eta, hMay2, hBest, hLives]
  have hNext : n ≤ 5 → NJ 0 6 1 [D.bool k, D.int IntKind.i64 (IntKind.i64.wrap (n + 1))] ∧ NM 6 1 [D.bool k, D.int IntKind.i64 (IntKind.i64.wrap (n + 1))] < NM 6 1 [D.bool k, D.int IntKind.i64 n] := by
    intro h5
    rw [wrap64 (by omega) (by omega)]
    exact NJ.next (n := n) hJ rfl rfl (by omega)
  refine ⟨fun h5 => ⟨may_less h1 h2, fun _ => ⟨fun h3 h4 => ⟨fun h6 _ => ?_, fun _ => hNext h5⟩, fun _ => hNext h5⟩⟩, fun _ => ?_⟩
  · rw [wrap64 (by omega) (by omega)] at h6
    exact may_greater h6 h4
  · cases hb : (bestR s more y.ask).2 with
    | false => exact .inl rfl
    | true => exact .inr (best_may hb)
theorem con4 : Con Try.prog pre phi tb4 := con_cons c4 con3

theorem c5 : PureFn Try.prog 5 s5 (pre 5) (phi 5) := by
  refine pureFn_auto (given := []) mix con4 Try.func5 (by kernel_rfl) (v := vc5) (by kernel_rfl) ?_
  intro ds h hp
  obtain ⟨_, _, rfl, gs, _, _, rfl, ga, rfl⟩ := h
  obtain ⟨s, rfl, hs⟩ := AStore.cases gs
  obtain ⟨ask, rfl, ha⟩ := ARes.cases ga
  have hR : ∀ l, phi 5 l = .bool true := fun _ => rfl
  simp only [vc5, vh_obl, vh_call, vh_room, vh_branch, vh_loop, vh_again, vh_ret]
  simp [updV, den, U.den, B.den, upd, condB, toL_list, toL_agg, toL_tup, toL_ptr, toL_fn, toI_int, toB_bool, AStore.toL, AStore.fold, ANode.toL, AAlc.toL, ARes.toL, ARes.eta, encL_toL, hCaps, hLives, hR, hBest, nil_enc]
  have hL : ∀ b : Bool, pre 7 [] := fun _ => trivial
  refine ⟨trivial, fun _ => trivial, fun hc => ⟨trivial, fun hb => ?_, fun hb => ⟨?_, ?_⟩⟩⟩
  · refine LoopOk.intro (fun xs => ∃ n : Nat, I (.list xs) 1 = n ∧ n ≤ s.Nodes.length) (FM s.Nodes 1) ⟨0, rfl, Nat.zero_le _⟩ ?_
    rintro xs hxs ⟨n, hn, hle⟩
    obtain ⟨_, _, rfl, ⟨k, rfl⟩, _, _, rfl, ⟨i, rfl, _⟩, rfl⟩ := hxs
    obtain rfl : i = n := hn
    rcases hx : s.Nodes[n]? with _ | x
    · have hge := ge_none hx
      simp [updV, den, U.den, B.den, upd, condB, toL_list, toL_agg, toL_tup, toL_ptr, toL_fn, toI_int, toB_bool, AStore.toL, AStore.fold, ANode.toL, AAlc.toL, ARes.toL, ARes.eta, encL_toL, hge]
      exact ⟨fun h => absurd h (by omega), trivial⟩
    · obtain ⟨hlt, hge⟩ := List.getElem?_eq_some_iff.1 hx
      have hw := next64 hs.Nodes.1.1 hlt
      have hmf := best_none hb x (mem_some hx)
      simp [updV, den, U.den, B.den, upd, condB, toL_list, toL_agg, toL_tup, toL_ptr, toL_fn, toI_int, toB_bool, AStore.toL, AStore.fold, ANode.toL, AAlc.toL, ARes.toL, ARes.eta, encL_toL, hge, hlt, hw, hMay, hmf, Nat.not_le.2 hlt]
      exact ⟨trivial, ⟨n + 1, rfl, hlt⟩, by show s.Nodes.length - ((n : Int) + 1).toNat < s.Nodes.length - (n : Int).toNat; omega⟩
  · show nodeO (AStore.dec s.enc) _ ≠ none
    rw [AStore.dec_enc]
    obtain ⟨x, hx, _⟩ := may_iff.1 (best_may hb)
    show nodeO s (bestR s [] ask).1 ≠ none
    rw [hx]; simp
  · refine LoopOk.intro (fun xs => ∃ n : Nat, I (.list xs) 1 = n ∧ n ≤ s.Nodes.length) (FM s.Nodes 1) ⟨0, rfl, Nat.zero_le _⟩ ?_
    rintro xs hxs ⟨n, hn, hle⟩
    obtain ⟨_, _, rfl, ⟨k, rfl⟩, _, _, rfl, ⟨i, rfl, _⟩, rfl⟩ := hxs
    obtain rfl : i = n := hn
    rcases hx : s.Nodes[n]? with _ | x
    · have hge := ge_none hx
      simp [updV, den, U.den, B.den, upd, condB, toL_list, toL_agg, toL_tup, toL_ptr, toL_fn, toI_int, toB_bool, AStore.toL, AStore.fold, ANode.toL, AAlc.toL, ARes.toL, ARes.eta, encL_toL, hge, hMay, best_may hb]
      exact ⟨fun h => absurd h (by omega), trivial, trivial⟩
    · obtain ⟨hlt, hge⟩ := List.getElem?_eq_some_iff.1 hx
      have hw := next64 hs.Nodes.1.1 hlt
      have hnx : (∃ m : Nat, I (.list [D.bool k, .int .i64 ((n : Int) + 1)]) 1 = m ∧ m ≤ s.Nodes.length) ∧ FM s.Nodes 1 [D.bool k, .int .i64 ((n : Int) + 1)] < FM s.Nodes 1 [D.bool k, .int .i64 n] :=
        ⟨⟨n + 1, rfl, hlt⟩, by show s.Nodes.length - ((n : Int) + 1).toNat < s.Nodes.length - (n : Int).toNat; omega⟩
      simp [updV, den, U.den, B.den, upd, condB, toL_list, toL_agg, toL_tup, toL_ptr, toL_fn, toI_int, toB_bool, AStore.toL, AStore.fold, ANode.toL, AAlc.toL, ARes.toL, ARes.eta, encL_toL, hge, hlt, hw, hMay, hLeftNow, Nat.not_le.2 hlt]
      refine ⟨trivial, fun _ => hnx, fun hm => ⟨?_, ?_, fun _ _ => hnx⟩⟩
      · show nodeO (AStore.dec s.enc) _ ≠ none
        rw [AStore.dec_enc]
        obtain ⟨y, hy, _⟩ := may_iff.1 hm
        show nodeO s x.ID ≠ none
        rw [hy]; simp
      · obtain ⟨h1, h2⟩ := best_least hc hb (mem_some hx) hm
        exact ⟨by omega, h2⟩
theorem con5 : Con Try.prog pre phi tb5 := con_cons c5 con4

end Go.Proofs.Ytkmgkdaedjdeeaa
