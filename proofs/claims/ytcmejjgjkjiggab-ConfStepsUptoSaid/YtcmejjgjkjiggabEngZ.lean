/-
  slices.Sort, Compact and Clone at integers: their contracts, in the engine's words.
-/
import Derived.Test.YtcmejjgjkjiggabEngY
import Derived.Shelf.Sort.Plain
import Derived.Shelf.Slices.In.SortNone
import Derived.Shelf.Slices.CompactI
import Derived.Shelf.Slices.Clone
import Derived.Sort.OwnSortedInts
import Derived.Lib.OwnBridge
namespace Go.Eng
open Go Go.RowKit Go.Shelf Go.Sort Go.Proofs

def intsOf (d : D) : List Int := d.toL.map D.toI
theorem intsOf_list (l : List Int) : intsOf (.list (l.map (D.int .i64))) = l := by simp [intsOf, D.toL, List.map_map, Function.comp_def, D.toI]
def sortI (l : List Int) : List Int := l.mergeSort fun x y => decide (x ≤ y)
def sortSig : Sig := ⟨[.list (.int .i64)], [], some ⟨[], [], [[], []], false⟩⟩
def compSig : Sig := ⟨[.list (.int .i64)], [(false, [(.list (.int .i64), none)])], some ⟨[], [], [[], []], false⟩⟩
def cloneSig (T : TypeId) : Sig := ⟨[.list (.int .i64)], [(false, [(.int .i64, some (1, T))])], none⟩
def sortPhi (ds : List D) : D := .list ((sortI (intsOf (ds.getD 0 .top))).map (D.int .i64))
def compPhi (ds : List D) : D := .list ((Lib.compact (intsOf (ds.getD 0 .top))).map (D.int .i64))
def clonePhi (ds : List D) : D := .list (ds.getD 0 .top).toL

theorem has_ints {l : List Int} : Has (.list (.int .i64)) (.list (l.map (D.int .i64))) ↔ l.length * 8 ≤ 140737488355328 ∧ ∀ x ∈ l, inK .i64 x := by
  constructor
  · intro h
    obtain ⟨_, h1, ⟨_, h2⟩, h3⟩ := has_list.1 h
    injection h1 with h1; subst h1
    refine ⟨by rw [List.length_map] at h2; exact h2, fun x hx => ?_⟩
    obtain ⟨n, hn, hk⟩ := has_int.1 (h3 (.int .i64 x) (List.mem_map.2 ⟨x, hx, rfl⟩))
    injection hn with _ hn; subst hn; exact hk
  · rintro ⟨h1, h2⟩
    refine has_list.2 ⟨_, rfl, ⟨by rw [List.length_map]; exact Nat.le_trans (show _ ≤ 140737488355328 by omega) (by decide), by rw [List.length_map]; exact h1⟩, fun x hx => ?_⟩
    obtain ⟨n, hn, rfl⟩ := List.mem_map.1 hx
    exact has_int.2 ⟨n, rfl, h2 n hn⟩
theorem sortI_len (l : List Int) : (sortI l).length = l.length := List.length_mergeSort l
theorem mem_sortI {l : List Int} {x : Int} : x ∈ sortI l ↔ x ∈ l := List.mem_mergeSort
theorem mem_compact {l : List Int} {x : Int} (h : x ∈ Lib.compact l) : x ∈ l := by
  unfold Lib.compact Lib.compactUpTo at h
  obtain ⟨i, hi, rfl⟩ := List.mem_map.1 h
  have hi' := (List.mem_filter.1 hi).1
  rw [List.mem_range] at hi'
  rw [getElem!_pos _ i (by simpa using hi')]
  simp

section
variable {P : Program} {ρ : Ren} {fn : Func}
theorem enter_of {f : Nat} (hf : P.funcs[f]? = some fn) (hb : (fn.body.isSome && !(fn.name == "runtime.NumGoroutine")) = true) (args : Array Value) (w : World) : (callFunc f args).run P w = .ok (.enter f args) w := by
  simp only [Bool.and_eq_true, Bool.not_eq_true'] at hb
  obtain ⟨h1, h2⟩ := hb
  unfold callFunc
  obtain ⟨c, hc⟩ := Option.isSome_iff_exists.1 h1
  have hname' : fn.name ≠ "runtime.NumGoroutine" := by simpa using h2
  simp [hf, hc, hname']

theorem below_of_grown {w w' : World} {g : Nat} (h : w.grownBy w' (some g)) : BelowX (fun b => (Value.slice (some ⟨g, 0, none⟩) 0 0).ownBlock = some b) w w' :=
  ⟨h.os, h.tape, h.output, h.size, fun k hk hne => h.block k hk (fun e => hne (by simp only [Option.some.injEq] at e; subst e; rfl))⟩

theorem sort_pure (L : Lays.n189 P ρ) (hf : P.funcs[ρ.f 189]? = some fn) (hb : (fn.body.isSome && !(fn.name == "runtime.NumGoroutine")) = true) : PureFn P (ρ.f 189) sortSig (fun _ => True) sortPhi := by
  refine ⟨enter_of hf hb, fun h => (by cases h), fun ob h1 h2 => (by simp only [sortSig, Option.some.injEq] at h1; subst h1; cases h2), fun ob _ _ w T v zs hrow hhas _ => ?_⟩
  obtain ⟨h8, hk⟩ := has_ints.1 hhas
  have hΦ : sortPhi [.list (zs.map (D.int .i64))] = .list ((sortI zs).map (D.int .i64)) := by
    show D.list _ = _
    rw [show intsOf ([D.list (zs.map (D.int .i64))].getD 0 .top) = zs from intsOf_list zs]
  have hhs : Has (.list (.int .i64)) (.list ((sortI zs).map (D.int .i64))) := has_ints.2 ⟨by rw [sortI_len]; exact h8, fun x hx => hk x (mem_sortI.1 hx)⟩
  rcases hrow.2 with ⟨rfl, h0⟩ | ⟨g, cap, cur, rfl, hbase, hbk, h1, h2, h3, h4⟩
  · have hz : zs = [] := List.eq_nil_of_length_eq_zero h0
    subst hz
    have e0 : sortI [] = [] := by simp [sortI]
    rw [e0] at hΦ hhs
    refine (Any.slices_Sort_int_none L none 0 w).mono ?_
    rintro e w' ⟨rfl, rfl⟩
    exact ⟨_, .slice none 0 0, [], rfl, hΦ, hhs, ⟨rfl, ⟨rfl, .inl ⟨rfl, rfl⟩⟩, rfl, BelowX.refl _ _⟩⟩
  · have h4' : cur.toList.take zs.length = zs.map (Value.int .i64) := by simpa using h4
    refine (Any.slices_Sort_int L g 0 cap zs w (holds_of_blockI hbk h4') (Array.getElem?_eq_some_iff.1 hbk).1 (by omega)).mono ?_
    rintro e w' ⟨rfl, n, os, rfl⟩
    have hown := ownsRow_sortedI (n := n) (os := os) (ts := sortI zs) (sortI_len zs) hbase hbk h1 h2 h3
    refine ⟨_, .slice (some ⟨g, 0, none⟩) zs.length cap, sortI zs, rfl, hΦ, hhs, ⟨rfl, ?_, rfl, below_of_grown (grownBy_sortedI _)⟩⟩
    rw [sortI_len]; exact hown

theorem compact_pure (L : Lays2.n20 P ρ) (hf : P.funcs[ρ.f 20]? = some fn) (hb : (fn.body.isSome && !(fn.name == "runtime.NumGoroutine")) = true) : PureFn P (ρ.f 20) compSig (fun _ => True) compPhi := by
  refine ⟨enter_of hf hb, fun h => (by cases h), fun ob h1 h2 => (by simp only [compSig, Option.some.injEq] at h1; subst h1; cases h2), fun ob _ _ w T v zs hrow hhas _ => ?_⟩
  obtain ⟨h8, hk⟩ := has_ints.1 hhas
  have hle := Lib.compact_length_le zs
  have hΦ : compPhi [.list (zs.map (D.int .i64))] = .list ((Lib.compact zs).map (D.int .i64)) := by
    show D.list _ = _
    rw [show intsOf ([D.list (zs.map (D.int .i64))].getD 0 .top) = zs from intsOf_list zs]
  have hhs : Has (.list (.int .i64)) (.list ((Lib.compact zs).map (D.int .i64))) := has_ints.2 ⟨by omega, fun x hx => hk x (mem_compact hx)⟩
  rcases hrow.2 with ⟨rfl, h0⟩ | ⟨g, cap, cur, rfl, hbase, hbk, h1, h2, h3, h4⟩
  · have hz : zs = [] := List.eq_nil_of_length_eq_zero h0
    subst hz
    refine (Any.slices_Compact_int_empty L none 0 w).mono ?_
    rintro e w' ⟨rfl, rfl⟩
    exact ⟨_, .slice none 0 0, Lib.compact [], rfl, hΦ, hhs, ⟨rfl, ⟨rfl, .inl ⟨rfl, rfl⟩⟩, rfl, BelowX.refl _ _⟩⟩
  · have h4' : cur.toList.take zs.length = zs.map (Value.int .i64) := by simpa using h4
    refine (Any.slices_Compact_int L g 0 cap zs w (holds_of_blockI hbk h4') (by omega) h1).mono ?_
    rintro e w' ⟨rfl, q, rfl⟩
    have hown := Lib.ownsRow_putRow (q := q) (k := (Lib.compact zs).length) (ys := Lib.compact zs ++ List.replicate (zs.length - (Lib.compact zs).length) 0) hrow (by simp; omega) (by omega)
    rw [List.take_left] at hown
    have hg := grownBy_sortedI (w := w) (g := g) (n := q) (os := #[]) (Lib.compact zs ++ List.replicate (zs.length - (Lib.compact zs).length) 0).toArray
    rw [grow_empty] at hg
    exact ⟨_, .slice (some ⟨g, 0, none⟩) (Lib.compact zs).length cap, Lib.compact zs, rfl, hΦ, hhs, ⟨rfl, hown, rfl, below_of_grown hg⟩⟩

theorem clone_pure (L : Lays2.n15 P ρ) (hf : P.funcs[ρ.f 15]? = some fn) (hb : (fn.body.isSome && !(fn.name == "runtime.NumGoroutine")) = true) : PureFn P (ρ.f 15) (cloneSig (ρ.t 3)) (fun _ => True) clonePhi := by
  refine ⟨enter_of hf hb, fun _ w S vs ds hS hlen hrep hty _ => ?_, fun ob h1 => (by cases h1), fun ob h1 => (by cases h1)⟩
  obtain ⟨d, r, rfl, hd, hr⟩ := has_cons.1 hty
  obtain rfl := has_nil.1 hr
  obtain ⟨v, rfl⟩ : ∃ v, vs = [v] := List.length_eq_one_iff.1 hlen
  have hv := hrep 0 v d rfl rfl
  obtain ⟨l, rfl, hl, hl2⟩ := has_list.1 hd
  obtain ⟨zs, rfl⟩ := ints_of_has hl2
  obtain ⟨h8, hk⟩ := has_ints.1 hd
  -- what is left, out of an owned row
  have fin : ∀ (v' : Value) (w' : World), w'.ownsRow w.heap.size (ρ.t 3) 1 v' zs.length (zs.map (Value.int .i64)) → Below w.heap.size w w' →
      ∃ u S' τ, Ending.returned v' = .returned u ∧ Below w.heap.size w w' ∧ (∀ b o, S b o → S' b o) ∧ (∀ b o, S' b o → b < w'.heap.size) ∧ (∀ b o, S' b o → S b o ∨ w.heap.size ≤ b) ∧
        ResOk w' 0 S' τ (cloneSig (ρ.t 3)).res u (clonePhi [.list (zs.map (D.int .i64))]) ∧ (∀ j b, j ∈ ownIdx (cloneSig (ρ.t 3)).res → (τ j).ownBlock = some b → w.heap.size ≤ b) ∧ ∀ j k b, j ∈ ownIdx (cloneSig (ρ.t 3)).res → k ∈ ownIdx (cloneSig (ρ.t 3)).res → (τ j).ownBlock = some b → (τ k).ownBlock = some b → j = k := by
    intro v' w' hown hbel
    have hge : ∀ b, v'.ownBlock = some b → w.heap.size ≤ b := by
      intro b hb'
      rcases hown.2 with ⟨rfl, _⟩ | ⟨g, cap, cur, rfl, hg, _⟩
      · cases hb'
      · simp only [Value.ownBlock, Option.some.injEq] at hb'; subst hb'; exact hg
    have hown0 : w'.ownsRow 0 (ρ.t 3) 1 v' zs.length (zs.map (Value.int .i64)) := by
      refine ⟨hown.1, ?_⟩
      rcases hown.2 with h | ⟨g, cap, cur, h1, _, h3⟩
      · exact .inl h
      · exact .inr ⟨g, cap, cur, h1, Nat.zero_le _, h3⟩
    refine ⟨v', fun b o => S b o ∨ (v'.ownBlock = some b ∧ o < zs.length), fun _ => v', rfl, hbel, fun b o h => .inl h, ?_, ?_, ?_, fun j b _ h => hge b h, ?_⟩
    · rintro b o (h | ⟨h, _⟩)
      · exact Nat.lt_of_lt_of_le (hS b o h) hbel.size
      · exact own_lt hown h
    · rintro b o (h | ⟨h, _⟩)
      · exact .inl h
      · exact .inr (hge b h)
    · refine .inl ⟨_, rfl, ?_⟩
      refine ⟨_, rfl, rfl, ?_⟩
      refine ⟨hd, by decide, zs.map (Value.int .i64), zs.map (D.int .i64), rfl, by rw [List.length_map]; exact hown0, ?_, ?_⟩
      · intro b hb' o
        rw [List.length_map]
        exact ⟨fun h => h.elim (fun h => absurd (hS b o h) (Nat.not_lt.2 (hge b hb'))) (fun h => ⟨rfl, h.2⟩), fun h => .inr ⟨hb', h.2⟩⟩
      · intro i d j u c hd' hc hx
        simp only [List.getElem?_map, Option.map_eq_some_iff] at hd'
        obtain ⟨z, hz, rfl⟩ := hd'
        cases j with
        | succ j => simp [D.cells] at hc
        | zero =>
          simp only [D.cells, List.getElem?_cons_zero, Option.some.injEq] at hc; subst hc
          have e1 : (Ty.int .i64).cells.length = 1 := rfl
          rw [e1, Nat.mul_one, Nat.add_zero, List.getElem?_map, hz] at hx
          simp only [Option.map_some, Option.some.injEq] at hx; subst hx
          exact .int _ _
    · intro j k b hj hk' _ _
      have e : ownIdx (cloneSig (ρ.t 3)).res = [1] := rfl
      rw [e, List.mem_singleton] at hj hk'
      rw [hj, hk']
  show Calls P (ρ.f 15) #[v] w _
  generalize hdl : (zs.map (D.int .i64)) = l at hv
  cases hv with
  | nil a cap =>
    have hz : zs = [] := by cases zs with | nil => rfl | cons z r => simp at hdl
    subst hz
    cases a with
    | none =>
      refine (Any.slices_Clone_int_nil L 0 cap w).mono ?_
      rintro e w' ⟨rfl, rfl⟩
      exact fin _ _ ⟨rfl, .inl ⟨rfl, rfl⟩⟩ ⟨rfl, rfl, rfl, Nat.le_refl _, fun _ _ => rfl⟩
    | some a =>
      refine (Any.slices_Clone_int_zero L a cap w).mono ?_
      rintro e w' ⟨v', rfl, hown, _, hbel⟩
      exact fin v' w' hown hbel
  | list b off cap sz xs _ hsz hne hcap hlen2 hSx hc hw h =>
    subst hdl
    have hsz1 : sz = 1 := by
      cases zs with
      | nil => simp at hne
      | cons z r => rw [← hw 0 (.int .i64 z) rfl]; rfl
    subst hsz1
    rw [List.length_map, Nat.mul_one] at hlen2
    rw [List.length_map]
    refine (Any.slices_Clone_int L b off zs.length cap zs w (Nat.le_refl _) h8 (fun j hj => ?_)).mono ?_
    · have hx : xs[j]? = some xs[j] := List.getElem?_eq_getElem (by omega)
      rw [hc j _ hx]
      have := h j (.int .i64 zs[j]) 0 xs[j] (.int .i64 zs[j]) (by simp [hj]) rfl (by rw [Nat.mul_one, Nat.add_zero]; exact hx)
      rw [this.inv_int]
      simp [List.getD, hj]
    · rintro e w' ⟨v', rfl, hown, _, hbel⟩
      rw [List.take_length] at hown
      exact fin v' w' hown hbel
end
end Go.Eng
