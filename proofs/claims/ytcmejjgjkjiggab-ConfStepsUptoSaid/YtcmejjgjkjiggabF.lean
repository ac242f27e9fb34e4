/-
  What each function of this seat computes.
-/
import Derived.Test.YtcmejjgjkjiggabV
import Derived.KernelRfl
set_option linter.unusedSimpArgs false
set_option linter.unusedVariables false
namespace Go.Proofs.Ytcmejjgjkjiggab
open Go Go.Eng Go.Proofs

theorem intsD {d : D} (h : Has (.list (.int .i64)) d) : ∃ l : List Int, d = .list (l.map (D.int .i64)) ∧ l.length * 8 ≤ 140737488355328 ∧ ∀ x ∈ l, -9223372036854775808 ≤ x ∧ x ≤ 9223372036854775807 := by
  obtain ⟨l, rfl, _, h2⟩ := has_list.1 h
  obtain ⟨zs, rfl⟩ := ints_of_has h2
  obtain ⟨h3, h4⟩ := has_ints.1 h
  exact ⟨zs, rfl, h3, fun x hx => inK64.1 (h4 x hx)⟩
theorem confD {d : D} (h : Has confT d) : ∃ v l : List Int, d = .agg [.list (v.map (D.int .i64)), .list (l.map (D.int .i64))] ∧ v.length * 8 ≤ 140737488355328 ∧ (∀ x ∈ v, -9223372036854775808 ≤ x ∧ x ≤ 9223372036854775807) ∧ l.length * 8 ≤ 140737488355328 ∧ ∀ x ∈ l, -9223372036854775808 ≤ x ∧ x ≤ 9223372036854775807 := by
  obtain ⟨_, rfl, _, _, rfl, h1, _, _, rfl, h2, rfl⟩ := h
  obtain ⟨v, rfl, a1, a2⟩ := intsD h1
  obtain ⟨l, rfl, b1, b2⟩ := intsD h2
  exact ⟨v, l, rfl, a1, a2, b1, b2⟩
/-- Servers, rising, above a number. -/
def risB : Int → List Int → Bool
  | _, [] => true
  | p, x :: r => (decide (1 ≤ x) && decide (x ≤ 5) && decide (p < x)) && risB x r
def lastI : Int → List Int → Int
  | p, [] => p
  | _, x :: r => lastI x r
theorem lastI_append : ∀ {a b : List Int} {p : Int}, lastI p (a ++ b) = lastI (lastI p a) b
  | [], _, _ => rfl
  | x :: a, b, _ => by simp only [List.cons_append, lastI, lastI_append (a := a)]
def vo (d : D) : List Int := intsOf (d.toL.getD 0 .top)
def lr (d : D) : List Int := intsOf (d.toL.getD 1 .top)
def cf (v l : List Int) : D := .agg [.list (v.map (D.int .i64)), .list (l.map (D.int .i64))]
theorem vo_cf (v l : List Int) : vo (.agg [.list (v.map (D.int .i64)), .list (l.map (D.int .i64))]) = v := intsOf_list v
theorem lr_cf (v l : List Int) : lr (.agg [.list (v.map (D.int .i64)), .list (l.map (D.int .i64))]) = l := intsOf_list l
def mayC (v l : List Int) : Bool := risB 0 v && risB 0 l && !v.isEmpty && decide (∀ x ∈ l, x ∉ v)
def memF (v l : List Int) : List Int := Lib.compact (sortI (v ++ l))
def cntF (v yes : List Int) : Nat := v.countP fun x => decide (x ∈ yes)
def majF (v yes : List Int) : Bool := decide ((v.length : Int) < 2 * (cntF v yes : Int))
def valF (m : List Int) (s : Int) : Int := if 1 ≤ s ∧ s ≤ m.length then (if 0 < m.getD (s - 1).toNat 0 then m.getD (s - 1).toNat 0 else 0) else 0
def agrF (v m : List Int) : Int := if v = [] then 0 else (sortI (v.map (valF m))).getD ((v.length - 1) / 2) 0
def difF (a b : List Int) (n : Nat) : Nat := (List.range n).countP fun s : Nat => decide ((s : Int) ∈ a) != decide ((s : Int) ∈ b)
def sinF (va la vb lb : List Int) : Bool := mayC va la && mayC vb lb && decide (difF va vb 6 ≤ 1)
def withF (l : List Int) (s : Int) : List Int := sortI (l ++ [s])
def addOk (v l : List Int) (s : Int) : Bool := mayC v l && decide (1 ≤ s) && decide (s ≤ 5) && decide (s ∉ memF v l)
def addF (v l : List Int) (s : Int) : D := if addOk v l s then .tup [cf v (withF l s), .int .i64 0] else .tup [cf [] [], .int .i64 22]
theorem difF_succ (a b : List Int) (n : Nat) : difF a b (n + 1) = difF a b n + (if decide ((n : Int) ∈ a) != decide ((n : Int) ∈ b) then 1 else 0) := by
  unfold difF; rw [List.range_succ, List.countP_append]; simp [List.countP_cons]
theorem difF_le (a b : List Int) (n : Nat) : difF a b n ≤ n := by
  unfold difF; have := List.countP_le_length (p := fun s : Nat => decide ((s : Int) ∈ a) != decide ((s : Int) ∈ b)) (l := List.range n); simpa using this
theorem cntF_le (v y : List Int) : cntF v y ≤ v.length := List.countP_le_length
theorem cntF_take {v y : List Int} {n : Nat} {x : Int} (h : v[n]? = some x) : cntF (v.take (n + 1)) y = cntF (v.take n) y + (if x ∈ y then 1 else 0) := by
  unfold cntF; rw [List.take_add_one, h, Option.toList_some, List.countP_append]; simp [List.countP_cons]
theorem valF_len (v m : List Int) : (sortI (v.map (valF m))).length = v.length := by rw [sortI_len, List.length_map]
theorem risB_len : ∀ {l : List Int} {p : Int}, 0 ≤ p → risB p l = true → (l.length : Int) ≤ max 0 (5 - p)
  | [], p, _, _ => by simp; omega
  | x :: r, p, hp, h => by
    simp only [risB, Bool.and_eq_true, decide_eq_true_eq] at h
    obtain ⟨⟨⟨h1, h2⟩, h3⟩, h4⟩ := h
    have := risB_len (by omega) h4
    simp only [List.length_cons]; omega
theorem risB_strict : ∀ {l : List Int} {p : Int}, risB p l = true → l.Pairwise (· < ·)
  | [], _, _ => List.Pairwise.nil
  | [x], _, _ => by simp
  | x :: y :: r, p, h => by
    simp only [risB, Bool.and_eq_true, decide_eq_true_eq] at h
    obtain ⟨_, ⟨⟨h2, h3⟩, h4⟩, h5⟩ := h
    have ih : (y :: r).Pairwise (· < ·) := risB_strict (p := x) (by simp only [risB, Bool.and_eq_true, decide_eq_true_eq]; exact ⟨⟨⟨h2, h3⟩, h4⟩, h5⟩)
    refine List.pairwise_cons.2 ⟨fun z hz => ?_, ih⟩
    rcases List.mem_cons.1 hz with rfl | hz
    · exact h4
    · have := (List.pairwise_cons.1 ih).1 z hz; omega
theorem mayC_iff {v l : List Int} : mayC v l = true ↔ risB 0 v = true ∧ risB 0 l = true ∧ v ≠ [] ∧ ∀ x ∈ l, x ∉ v := by
  simp [mayC, and_assoc]
theorem mayC_len {v l : List Int} (h : mayC v l = true) : v.length ≤ 5 := by
  have := risB_len (Int.le_refl 0) (mayC_iff.1 h).1; omega
theorem mayC_len2 {v l : List Int} (h : mayC v l = true) : l.length ≤ 5 := by
  have := risB_len (Int.le_refl 0) (mayC_iff.1 h).2.1; omega
theorem risB_mem : ∀ {l : List Int} {p : Int}, risB p l = true → ∀ x ∈ l, 1 ≤ x ∧ x ≤ 5
  | [], _, _, x, hx => by simp at hx
  | y :: r, p, h, x, hx => by
    simp only [risB, Bool.and_eq_true, decide_eq_true_eq] at h
    obtain ⟨⟨⟨h1, h2⟩, _⟩, h4⟩ := h
    rcases List.mem_cons.1 hx with rfl | hx
    · exact ⟨h1, h2⟩
    · exact risB_mem h4 x hx
def putF : List Int → Int → List Int
  | [], n => [n]
  | x :: r, n => if x < n then x :: putF r n else if x = n then x :: r else n :: x :: r
def rmemF (v l : List Int) : List Int := l.foldl putF (v.foldl putF [])
theorem putF_at {b : Int} : ∀ {l : List Int} {n : Nat}, n ≤ l.length → (∀ y ∈ l.take n, y < b) → putF l b = match l[n]? with
    | none => l ++ [b]
    | some x => if x < b then putF l b else if x = b then l else l.take n ++ b :: l.drop n
  | [], 0, _, _ => rfl
  | x :: r, 0, _, _ => by
    simp only [List.getElem?_cons_zero, List.take_zero, List.nil_append, List.drop_zero]
    by_cases h : x < b
    · rw [if_pos h]
    · rw [if_neg h]; unfold putF; rw [if_neg h]
  | x :: r, n + 1, hn, hy => by
    have h1 : x < b := hy x (by simp)
    have ih := putF_at (b := b) (l := r) (n := n) (by simpa using hn) (fun y h => hy y (by simp [h]))
    have e : putF (x :: r) b = x :: putF r b := by conv => lhs; unfold putF; rw [if_pos h1]
    rw [List.getElem?_cons_succ]
    rcases hx : r[n]? with _ | z
    · rw [hx] at ih; rw [e, ih]; rfl
    · rw [hx] at ih
      simp only at ih ⊢
      by_cases h2 : z < b
      · rw [if_pos h2]
      · rw [if_neg h2] at ih ⊢
        rw [e, ih]
        split <;> simp
  | [], n + 1, h, _ => by simp at h
theorem putF_len (l : List Int) (b : Int) : (putF l b).length ≤ l.length + 1 := by
  induction l with
  | nil => simp [putF]
  | cons x r ih =>
    unfold putF
    split
    · simp; omega
    · split <;> simp
theorem sorted_sortI (l : List Int) : (sortI l).Pairwise (· ≤ ·) := by
  have := List.pairwise_mergeSort (le := fun x y : Int => decide (x ≤ y)) (by intro a b c h1 h2; simp only [decide_eq_true_eq] at *; omega) (by intro a b; simp only [Bool.or_eq_true, decide_eq_true_eq]; omega) l
  exact this.imp (by intro a b h; simpa using h)
theorem perm_sortI (l : List Int) : (sortI l).Perm l := List.mergeSort_perm l _
theorem sortI_eq {l r : List Int} (h : l.Perm r) (hs : r.Pairwise (· ≤ ·)) : sortI l = r :=
  List.Perm.eq_of_pairwise (fun a b _ _ h1 h2 => Int.le_antisymm h1 h2) (sorted_sortI l) hs ((perm_sortI l).trans h)
theorem keeps_not {d : Array Int} {m : Nat} (h : Lib.keeps d m = false) : 0 < m ∧ d[m]! = d[m - 1]! := by
  refine ⟨?_, ?_⟩
  · rcases Nat.eq_zero_or_pos m with h0 | h0
    · rw [Lib.keeps_lt_one d m (by omega)] at h; cases h
    · exact h0
  · by_cases e : d[m]! = d[m - 1]!
    · exact e
    · rw [Lib.keeps_pos e] at h; cases h
theorem mem_compactUpTo {d : Array Int} : ∀ {m j : Nat}, j < m → d[j]! ∈ Lib.compactUpTo d m
  | 0, j, h => by omega
  | m + 1, j, h => by
    rw [Lib.compactUpTo_succ]
    rcases Nat.lt_or_ge j m with h' | h'
    · exact List.mem_append_left _ (mem_compactUpTo h')
    · obtain rfl : j = m := by omega
      cases hk : Lib.keeps d j with
      | true => exact List.mem_append_right _ (by simp)
      | false =>
        obtain ⟨h1, h2⟩ := keeps_not hk
        rw [h2]; exact List.mem_append_left _ (mem_compactUpTo (by omega))
theorem mem_compact_iff {l : List Int} {x : Int} : x ∈ Lib.compact l ↔ x ∈ l := by
  refine ⟨mem_compact, fun h => ?_⟩
  obtain ⟨j, hj, rfl⟩ := List.getElem_of_mem h
  have := mem_compactUpTo (d := l.toArray) (m := l.length) hj
  rwa [getElem!_pos _ j (by simpa using hj)] at this
theorem mem_memF {v l : List Int} {x : Int} : x ∈ memF v l ↔ x ∈ v ∨ x ∈ l := by
  rw [memF, mem_compact_iff, mem_sortI, List.mem_append]
theorem compact_strict {l : List Int} (hs : l.Pairwise (· ≤ ·)) : (Lib.compact l).Pairwise (· < ·) := by
  have hle : ∀ i j, i ≤ j → j < l.length → l.toArray[i]! ≤ l.toArray[j]! := by
    intro i j hij hj
    rw [getElem!_pos _ i (by simp; omega), getElem!_pos _ j (by simpa using hj)]
    rcases Nat.eq_or_lt_of_le hij with h | h
    · subst h; exact Int.le_refl _
    · exact List.pairwise_iff_getElem.1 hs i j (by omega) hj h
  have key : ∀ m, m ≤ l.length → (Lib.compactUpTo l.toArray m).Pairwise (· < ·) ∧ ∀ x ∈ Lib.compactUpTo l.toArray m, 0 < m ∧ x ≤ l.toArray[m - 1]! := by
    intro m
    induction m with
    | zero => intro _; exact ⟨by simp [Lib.compactUpTo], by simp [Lib.compactUpTo]⟩
    | succ m ih =>
      intro hm
      obtain ⟨h1, h2⟩ := ih (by omega)
      rw [Lib.compactUpTo_succ]
      have hup : ∀ x ∈ Lib.compactUpTo l.toArray m, x ≤ l.toArray[m]! := fun x hx => by
        obtain ⟨q1, q2⟩ := h2 x hx
        exact Int.le_trans q2 (hle (m - 1) m (by omega) (by omega))
      cases hk : Lib.keeps l.toArray m with
      | true =>
        rw [if_pos rfl]
        refine ⟨?_, ?_⟩
        · rw [List.pairwise_append]
          refine ⟨h1, by simp, fun x hx y hy => ?_⟩
          rw [List.mem_singleton] at hy; subst hy
          obtain ⟨q1, q2⟩ := h2 x hx
          have hne : l.toArray[m]! ≠ l.toArray[m - 1]! := fun e => by rw [Lib.keeps_neg q1 e] at hk; cases hk
          have := hle (m - 1) m (by omega) (by omega)
          omega
        · intro x hx
          rcases List.mem_append.1 hx with hx | hx
          · exact ⟨by omega, hup x hx⟩
          · rw [List.mem_singleton] at hx; subst hx; exact ⟨by omega, Int.le_refl _⟩
      | false =>
        rw [if_neg (by simp), List.append_nil]
        exact ⟨h1, fun x hx => ⟨by omega, hup x hx⟩⟩
  exact (key l.length (Nat.le_refl _)).1
theorem strict_ext : ∀ {a b : List Int}, a.Pairwise (· < ·) → b.Pairwise (· < ·) → (∀ x, x ∈ a ↔ x ∈ b) → a = b
  | [], [], _, _, _ => rfl
  | [], y :: b, _, _, h => by have := (h y).2 (by simp); simp at this
  | x :: a, [], _, _, h => by have := (h x).1 (by simp); simp at this
  | x :: a, y :: b, ha, hb, h => by
    rw [List.pairwise_cons] at ha hb
    have exy : x = y := by
      have h1 := (h x).1 (by simp)
      have h2 := (h y).2 (by simp)
      rcases List.mem_cons.1 h1 with h1 | h1
      · exact h1
      · rcases List.mem_cons.1 h2 with h2 | h2
        · exact h2.symm
        · have := hb.1 x h1; have := ha.1 y h2; omega
    subst exy
    rw [strict_ext ha.2 hb.2 (fun z => ⟨fun hz => by
      rcases List.mem_cons.1 ((h z).1 (List.mem_cons_of_mem _ hz)) with e | e
      · have := ha.1 z hz; omega
      · exact e, fun hz => by
      rcases List.mem_cons.1 ((h z).2 (List.mem_cons_of_mem _ hz)) with e | e
      · have := hb.1 z hz; omega
      · exact e⟩)]
theorem putF_ok {b : Int} : ∀ {l : List Int}, l.Pairwise (· < ·) → (putF l b).Pairwise (· < ·) ∧ ∀ x, x ∈ putF l b ↔ x ∈ l ∨ x = b
  | [], _ => by simp [putF]
  | y :: r, h => by
    rw [List.pairwise_cons] at h
    obtain ⟨h1, h2⟩ := putF_ok (b := b) h.2
    unfold putF
    split
    · rename_i hy
      refine ⟨List.pairwise_cons.2 ⟨fun z hz => ?_, h1⟩, fun x => ?_⟩
      · rcases (h2 z).1 hz with h3 | h3
        · exact h.1 z h3
        · rw [h3]; exact hy
      · rw [List.mem_cons, h2, List.mem_cons]; exact (or_assoc).symm
    · split
      · rename_i hy e
        subst e
        exact ⟨List.pairwise_cons.2 h, fun x => ⟨.inl, fun hx => hx.elim id fun e => by simp [e]⟩⟩
      · rename_i hy e
        refine ⟨List.pairwise_cons.2 ⟨fun z hz => ?_, List.pairwise_cons.2 h⟩, fun x => ?_⟩
        · rcases List.mem_cons.1 hz with rfl | hz
          · omega
          · have := h.1 z hz; omega
        · rw [List.mem_cons]; exact or_comm
theorem foldl_putF : ∀ {v o : List Int}, o.Pairwise (· < ·) → (v.foldl putF o).Pairwise (· < ·) ∧ ∀ x, x ∈ v.foldl putF o ↔ x ∈ o ∨ x ∈ v
  | [], o, h => ⟨h, by simp⟩
  | y :: r, o, h => by
    obtain ⟨h1, h2⟩ := putF_ok (b := y) h
    obtain ⟨h3, h4⟩ := foldl_putF (v := r) h1
    refine ⟨h3, fun x => ?_⟩
    show x ∈ r.foldl putF (putF o y) ↔ _
    rw [h4, h2, List.mem_cons, or_assoc]
theorem mem_rmemF {v l : List Int} {x : Int} : x ∈ rmemF v l ↔ x ∈ v ∨ x ∈ l := by
  have h1 := foldl_putF (v := v) (o := []) List.Pairwise.nil
  have h2 := foldl_putF (v := l) h1.1
  show x ∈ l.foldl putF (v.foldl putF []) ↔ _
  rw [h2.2, h1.2]; simp
theorem memF_strict (v l : List Int) : (memF v l).Pairwise (· < ·) := compact_strict (sorted_sortI _)
theorem rmemF_strict (v l : List Int) : (rmemF v l).Pairwise (· < ·) := (foldl_putF (foldl_putF (v := v) (o := []) List.Pairwise.nil).1).1
theorem mem_eq (v l : List Int) : memF v l = rmemF v l := strict_ext (memF_strict v l) (rmemF_strict v l) fun x => by rw [mem_memF, mem_rmemF]
/-- Who has come to t. -/
def yesP (m : List Int) (t : Int) (n : Nat) : List Int := ((List.range n).filter fun i => decide (t ≤ m.getD i 0)).map fun i : Nat => (i : Int) + 1
def yesF (m : List Int) (t : Int) : List Int := yesP m t m.length
theorem yesP_succ (m : List Int) (t : Int) (n : Nat) : yesP m t (n + 1) = yesP m t n ++ (if t ≤ m.getD n 0 then [(n : Int) + 1] else []) := by
  unfold yesP
  rw [List.range_succ, List.filter_append, List.map_append]
  congr 1
  by_cases h : t ≤ m.getD n 0
  · rw [if_pos h]; simp only [List.filter_cons, h, decide_true, if_true, List.filter_nil, List.map_cons, List.map_nil]
  · rw [if_neg h]; simp only [List.filter_cons, h, decide_false, List.filter_nil]; rfl
theorem yesP_len (m : List Int) (t : Int) (n : Nat) : (yesP m t n).length ≤ n := by
  unfold yesP; rw [List.length_map]; have := List.length_filter_le (fun i => decide (t ≤ m.getD i 0)) (List.range n); simpa using this
theorem mem_yesF {m : List Int} {t s : Int} : s ∈ yesF m t ↔ 1 ≤ s ∧ s ≤ m.length ∧ t ≤ m.getD (s - 1).toNat 0 := by
  unfold yesF yesP
  simp only [List.mem_map, List.mem_filter, List.mem_range, decide_eq_true_eq]
  constructor
  · rintro ⟨i, ⟨h1, h2⟩, rfl⟩
    exact ⟨by omega, by omega, by rw [show ((i : Int) + 1 - 1).toNat = i by omega]; exact h2⟩
  · rintro ⟨h1, h2, h3⟩
    exact ⟨(s - 1).toNat, ⟨by omega, h3⟩, by omega⟩
theorem yes_val {m : List Int} {t s : Int} (ht : 0 < t) : s ∈ yesF m t ↔ t ≤ valF m s := by
  rw [mem_yesF]; unfold valF
  split
  · rename_i h
    split
    · exact ⟨fun h' => h'.2.2, fun h' => ⟨h.1, h.2, h'⟩⟩
    · exact ⟨fun h' => by omega, fun h' => by omega⟩
  · rename_i h
    exact ⟨fun h' => absurd ⟨h'.1, h'.2.1⟩ h, fun h' => by omega⟩
theorem cnt_val {v m : List Int} {t : Int} (ht : 0 < t) : cntF v (yesF m t) = (sortI (v.map (valF m))).countP fun x => decide (t ≤ x) := by
  rw [(perm_sortI _).countP_eq, List.countP_map]
  unfold cntF
  congr 1
  funext s
  simp only [Function.comp_apply]
  rw [Bool.eq_iff_iff, decide_eq_true_eq, decide_eq_true_eq, yes_val ht]
theorem sorted_count {L : List Int} (hs : L.Pairwise (· ≤ ·)) (hne : L ≠ []) (t : Int) : t ≤ L.getD ((L.length - 1) / 2) 0 ↔ L.length < 2 * L.countP fun x => decide (t ≤ x) := by
  have hpos : 0 < L.length := List.length_pos_iff.2 hne
  have hj : (L.length - 1) / 2 < L.length := by omega
  have hget : L.getD ((L.length - 1) / 2) 0 = L[(L.length - 1) / 2] := by rw [List.getD_eq_getElem?_getD, List.getElem?_eq_getElem hj]; rfl
  rw [hget]
  generalize hjj : (L.length - 1) / 2 = j at hj
  have hle : ∀ i k (hi : i < L.length) (hk : k < L.length), i ≤ k → L[i] ≤ L[k] := by
    intro i k hi hk hik
    rcases Nat.eq_or_lt_of_le hik with h | h
    · subst h; exact Int.le_refl _
    · exact List.pairwise_iff_getElem.1 hs i k hi hk h
  constructor
  · intro h
    have e : L.countP (fun x => decide (t ≤ x)) = (L.take j).countP (fun x => decide (t ≤ x)) + (L.drop j).countP (fun x => decide (t ≤ x)) := by rw [← List.countP_append, List.take_append_drop]
    have hd : (L.drop j).countP (fun x => decide (t ≤ x)) = (L.drop j).length := by
      rw [List.countP_eq_length]
      intro x hx
      obtain ⟨i, hi, rfl⟩ := List.getElem_of_mem hx
      rw [List.length_drop] at hi
      rw [List.getElem_drop, decide_eq_true_eq]
      exact Int.le_trans h (hle j (j + i) hj (by omega) (by omega))
    rw [List.length_drop] at hd
    omega
  · intro h
    rcases Int.lt_or_le L[j] t with h' | h'
    · exfalso
      have e : L.countP (fun x => decide (t ≤ x)) = (L.take (j + 1)).countP (fun x => decide (t ≤ x)) + (L.drop (j + 1)).countP (fun x => decide (t ≤ x)) := by rw [← List.countP_append, List.take_append_drop]
      have hd : (L.take (j + 1)).countP (fun x => decide (t ≤ x)) = 0 := by
        rw [List.countP_eq_zero]
        intro x hx
        obtain ⟨i, hi, rfl⟩ := List.getElem_of_mem hx
        rw [List.length_take] at hi
        rw [List.getElem_take, decide_eq_true_eq]
        have := hle i j (by omega) hj (by omega)
        omega
      have h3 := List.countP_le_length (p := fun x => decide (t ≤ x)) (l := L.drop (j + 1))
      rw [List.length_drop] at h3
      omega
    · exact h'
theorem maj_val {v m : List Int} {t : Int} (ht : 0 < t) : majF v (yesF m t) = decide (t ≤ agrF v m) := by
  unfold majF agrF
  rw [cnt_val ht]
  by_cases hv : v = []
  · subst hv; simp [sortI]; omega
  · rw [if_neg hv]
    have hne : sortI (v.map (valF m)) ≠ [] := fun e => by
      have := valF_len v m; rw [e] at this; exact hv (List.eq_nil_of_length_eq_zero this.symm)
    have := sorted_count (sorted_sortI (v.map (valF m))) hne t
    rw [valF_len] at this
    rw [Bool.eq_iff_iff, decide_eq_true_eq, decide_eq_true_eq, this]
    omega
theorem agrF_cases (v m : List Int) : 0 ≤ agrF v m ∧ (0 < agrF v m → ∃ i, i < m.length ∧ m.getD i 0 = agrF v m) := by
  unfold agrF
  split
  · exact ⟨Int.le_refl 0, fun h => by omega⟩
  · rename_i hv
    have hpos : 0 < v.length := List.length_pos_iff.2 hv
    have hj : (v.length - 1) / 2 < (sortI (v.map (valF m))).length := by rw [valF_len]; omega
    rw [List.getD_eq_getElem?_getD, List.getElem?_eq_getElem hj, Option.getD_some]
    have hm : (sortI (v.map (valF m)))[(v.length - 1) / 2] ∈ v.map (valF m) := mem_sortI.1 (List.getElem_mem hj)
    obtain ⟨s, _, hs⟩ := List.mem_map.1 hm
    rw [← hs]
    unfold valF
    split
    · rename_i h
      split
      · rename_i h2
        exact ⟨by omega, fun _ => ⟨(s - 1).toNat, by omega, rfl⟩⟩
      · exact ⟨Int.le_refl 0, fun h => by omega⟩
    · exact ⟨Int.le_refl 0, fun h => by omega⟩
def ragP (v m : List Int) : Nat → Int
  | 0 => 0
  | k + 1 => if majF v (yesF m (m.getD k 0)) && decide (ragP v m k < m.getD k 0) then m.getD k 0 else ragP v m k
theorem ragP_ok (v m : List Int) : ∀ k, 0 ≤ ragP v m k ∧ ragP v m k ≤ agrF v m ∧ ∀ i, i < k → m.getD i 0 ≤ agrF v m → m.getD i 0 ≤ ragP v m k
  | 0 => ⟨Int.le_refl 0, (agrF_cases v m).1, fun i h => by omega⟩
  | k + 1 => by
    obtain ⟨h1, h2, h3⟩ := ragP_ok v m k
    unfold ragP
    split
    · rename_i hc
      simp only [Bool.and_eq_true, decide_eq_true_eq] at hc
      have hm := hc.1
      rw [maj_val (by omega), decide_eq_true_eq] at hm
      refine ⟨by omega, hm, fun i hi hia => ?_⟩
      rcases Nat.lt_or_ge i k with h | h
      · have := h3 i h hia; omega
      · obtain rfl : i = k := by omega
        exact Int.le_refl _
    · rename_i hc
      refine ⟨h1, h2, fun i hi hia => ?_⟩
      rcases Nat.lt_or_ge i k with h | h
      · exact h3 i h hia
      · obtain rfl : i = k := by omega
        rcases Int.lt_or_le (ragP v m i) (m.getD i 0) with h' | h'
        · exfalso
          apply hc
          rw [maj_val (by omega)]
          rw [Bool.and_eq_true, decide_eq_true_eq, decide_eq_true_eq]; exact ⟨hia, h'⟩
        · exact h'
theorem rag_eq (v m : List Int) : ragP v m m.length = agrF v m := by
  obtain ⟨h1, h2, h3⟩ := ragP_ok v m m.length
  obtain ⟨a1, a2⟩ := agrF_cases v m
  rcases Int.lt_or_le 0 (agrF v m) with h | h
  · obtain ⟨i, hi, he⟩ := a2 h
    have := h3 i hi (by omega)
    omega
  · omega
theorem difF_comm (a b : List Int) (n : Nat) : difF a b n = difF b a n := by
  unfold difF; congr 1; funext s
  cases decide ((s : Int) ∈ a) <;> cases decide ((s : Int) ∈ b) <;> rfl
theorem sinF_comm (va la vb lb : List Int) : sinF va la vb lb = sinF vb lb va la := by
  unfold sinF; rw [difF_comm, Bool.and_comm (mayC va la)]
theorem majF_twice (v y : List Int) : majF v (y ++ y) = majF v y := by
  unfold majF cntF; congr 1; simp
theorem wt_ints : ∀ l : List Int, wtL (l.map (D.int .i64)) = 0
  | [] => rfl
  | x :: r => by simp only [List.map_cons, wtL, D.wt, wt_ints r]
theorem wt_conf (v l : List Int) (r : List D) : wtL (.agg [.list (v.map (D.int .i64)), .list (l.map (D.int .i64))] :: r) = v.length + l.length + wtL r := by
  simp only [wtL, D.wt, wt_ints, List.length_map]; omega
theorem wt_list (l : List Int) (r : List D) : wtL (.list (l.map (D.int .i64)) :: r) = l.length + wtL r := by
  simp only [wtL, D.wt, wt_ints, List.length_map]; omega
theorem wt_int (n : Int) (r : List D) : wtL (.int .i64 n :: r) = wtL r := by simp only [wtL, D.wt]; omega
/-- How many of the five. -/
def cn (p : Int → Bool) : Nat := ([1, 2, 3, 4, 5] : List Int).countP p
theorem cn_strict : ∀ {v : List Int}, v.Pairwise (· < ·) → (∀ x ∈ v, 1 ≤ x ∧ x ≤ 5) → ∀ p : Int → Bool, v.countP p = cn fun x => decide (x ∈ v) && p x := by
  intro v hv hb p
  have e : v = ([1, 2, 3, 4, 5] : List Int).filter fun x => decide (x ∈ v) := by
    refine strict_ext hv ((show ([1, 2, 3, 4, 5] : List Int).Pairwise (· < ·) by decide).filter _) fun x => ?_
    rw [List.mem_filter, decide_eq_true_eq]
    refine ⟨fun h => ⟨?_, h⟩, fun h => h.2⟩
    have := hb x h
    simp only [List.mem_cons, List.not_mem_nil, or_false]; omega
  unfold cn
  conv => lhs; rw [e]
  rw [List.countP_filter]
  congr 1; funext x
  rw [Bool.and_comm]
theorem cn_le {p q : Int → Bool} {r : Int → Bool} (h : ∀ x, (p x).toNat + (q x).toNat ≤ (r x).toNat) : cn p + cn q ≤ cn r := by
  have := h 1; have := h 2; have := h 3; have := h 4; have := h 5
  simp only [cn, List.countP_cons, List.countP_nil, Nat.zero_add]
  have e : ∀ b : Bool, (if b = true then 1 else 0) = b.toNat := fun b => by cases b <;> rfl
  simp only [e]; omega
theorem cn_add (p q : Int → Bool) : cn (fun x => p x || q x) + cn (fun x => p x && q x) = cn p + cn q := by
  have e : ∀ b : Bool, (if b = true then 1 else 0) = b.toNat := fun b => by cases b <;> rfl
  have h : ∀ a b : Bool, (a || b).toNat + (a && b).toNat = a.toNat + b.toNat := by decide
  have := h (p 1) (q 1); have := h (p 2) (q 2); have := h (p 3) (q 3); have := h (p 4) (q 4); have := h (p 5) (q 5)
  simp only [cn, List.countP_cons, List.countP_nil, Nat.zero_add, e]; omega
theorem cn_diff {a b : List Int} (ha : (0 : Int) ∉ a) (hb : (0 : Int) ∉ b) : cn (fun x => decide (x ∈ a) || decide (x ∈ b)) = cn (fun x => decide (x ∈ a) && decide (x ∈ b)) + difF a b 6 := by
  have e : ∀ b : Bool, (if b = true then 1 else 0) = b.toNat := fun b => by cases b <;> rfl
  have h : ∀ a b : Bool, (a || b).toNat = (a && b).toNat + (a != b).toNat := by decide
  have := h (decide ((1 : Int) ∈ a)) (decide ((1 : Int) ∈ b)); have := h (decide ((2 : Int) ∈ a)) (decide ((2 : Int) ∈ b)); have := h (decide ((3 : Int) ∈ a)) (decide ((3 : Int) ∈ b))
  have := h (decide ((4 : Int) ∈ a)) (decide ((4 : Int) ∈ b)); have := h (decide ((5 : Int) ∈ a)) (decide ((5 : Int) ∈ b))
  have d : difF a b 6 = (decide ((1 : Int) ∈ a) != decide ((1 : Int) ∈ b)).toNat + (decide ((2 : Int) ∈ a) != decide ((2 : Int) ∈ b)).toNat + (decide ((3 : Int) ∈ a) != decide ((3 : Int) ∈ b)).toNat + (decide ((4 : Int) ∈ a) != decide ((4 : Int) ∈ b)).toNat + (decide ((5 : Int) ∈ a) != decide ((5 : Int) ∈ b)).toNat := by
    have h0 : difF a b 0 = 0 := rfl
    rw [difF_succ, difF_succ, difF_succ, difF_succ, difF_succ, difF_succ, h0]
    simp only [e, Int.natCast_zero]
    have z : (decide ((0 : Int) ∈ a) != decide ((0 : Int) ∈ b)) = false := by simp [ha, hb]
    simp only [Int.cast_ofNat_Int, z]
    simp
  simp only [cn, List.countP_cons, List.countP_nil, Nat.zero_add, e]; omega
theorem majF_mono {v y z : List Int} (hs : ∀ s : Int, s ∈ y → s ∈ z) (h : majF v y = true) : majF v z = true := by
  have h' : (v.length : Int) < 2 * (cntF v y : Int) := by unfold majF at h; exact of_decide_eq_true h
  have hc : cntF v y ≤ cntF v z := by
    unfold cntF
    refine List.countP_mono_left fun x _ hx => ?_
    simp only [decide_eq_true_eq] at hx ⊢
    exact hs x hx
  unfold majF
  exact decide_eq_true (by omega)
theorem agrF_mono {v m m' : List Int} (hv : ∀ s, valF m s ≤ valF m' s) : agrF v m ≤ agrF v m' := by
  rcases Int.lt_or_le 0 (agrF v m) with h | h
  · have h1 := maj_val (v := v) (m := m) h
    rw [decide_eq_true (Int.le_refl _)] at h1
    have h2 : majF v (yesF m' (agrF v m)) = true := majF_mono (fun s hs => (yes_val h).2 (Int.le_trans ((yes_val h).1 hs) (hv s))) h1
    rw [maj_val h] at h2
    exact of_decide_eq_true h2
  · exact Int.le_trans h (agrF_cases v m').1
/-- One number more. -/
def incF (m : List Int) (i : Nat) : List Int := m.take i ++ (m.getD i 0 + 1) :: (m.drop i).drop 1
theorem incF_len {m : List Int} {i : Nat} (h : i < m.length) : (incF m i).length = m.length := by
  unfold incF; simp only [List.length_append, List.length_take, List.length_cons, List.length_drop]; omega
theorem incF_get {m : List Int} {i : Nat} (h : i < m.length) (k : Nat) : m.getD k 0 ≤ (incF m i).getD k 0 := by
  unfold incF
  have h1 : (m.take i).length = i := by rw [List.length_take]; omega
  simp only [List.getD_eq_getElem?_getD]
  by_cases hk : k < i
  · rw [List.getElem?_append_left (by omega), List.getElem?_take, if_pos hk]; exact Int.le_refl _
  · rw [List.getElem?_append_right (by omega), h1]
    by_cases hke : k = i
    · subst hke
      rw [Nat.sub_self]
      simp only [List.getElem?_cons_zero, Option.getD_some]
      omega
    · rw [show k - i = (k - i - 1) + 1 by omega, List.getElem?_cons_succ, List.getElem?_drop, List.getElem?_drop, show i + (1 + (k - i - 1)) = k by omega]
      exact Int.le_refl _
theorem incF_val {m : List Int} {i : Nat} (h : i < m.length) (s : Int) : valF m s ≤ valF (incF m i) s := by
  unfold valF
  rw [incF_len h]
  have := incF_get h (s - 1).toNat
  split
  · split
    · split
      · exact this
      · omega
    · split
      · omega
      · exact Int.le_refl _
  · exact Int.le_refl _
theorem meets {va la vb lb y z : List Int} (h1 : sinF va la vb lb = true) (h2 : majF va y = true) (h3 : majF vb z = true) : ∃ s : Int, 1 ≤ s ∧ s ≤ 5 ∧ s ∈ y ∧ s ∈ z ∧ s ∈ va ∧ s ∈ vb := by
  simp only [sinF, Bool.and_eq_true, decide_eq_true_eq] at h1
  obtain ⟨⟨ma, mb⟩, hd⟩ := h1
  have ra := (mayC_iff.1 ma).1
  have rb := (mayC_iff.1 mb).1
  have ba := risB_mem ra
  have bb := risB_mem rb
  have sa := risB_strict ra
  have sb := risB_strict rb
  have hda := cn_diff (a := va) (b := vb) (fun h => by have := ba 0 h; omega) (fun h => by have := bb 0 h; omega)
  have hadd := cn_add (fun x => decide (x ∈ va)) (fun x => decide (x ∈ vb))
  have la' : va.length = cn fun x => decide (x ∈ va) := by have := cn_strict sa ba (fun _ => true); simpa using this
  have lb' : vb.length = cn fun x => decide (x ∈ vb) := by have := cn_strict sb bb (fun _ => true); simpa using this
  have h2' : (va.length : Int) < 2 * (cntF va y : Int) := by unfold majF at h2; exact of_decide_eq_true h2
  have h3' : (vb.length : Int) < 2 * (cntF vb z : Int) := by unfold majF at h3; exact of_decide_eq_true h3
  have ca : cntF va y = cn fun x => decide (x ∈ va) && decide (x ∈ y) := cn_strict sa ba _
  have cb : cntF vb z = cn fun x => decide (x ∈ vb) && decide (x ∈ z) := cn_strict sb bb _
  rw [ca] at h2'
  rw [cb] at h3'
  by_cases hm : ∃ s : Int, s ∈ y ∧ s ∈ z ∧ s ∈ va ∧ s ∈ vb
  · obtain ⟨s, q1, q2, q3, q4⟩ := hm
    exact ⟨s, (ba s q3).1, (ba s q3).2, q1, q2, q3, q4⟩
  · exfalso
    have hle := cn_le (p := fun x => decide (x ∈ va) && decide (x ∈ y)) (q := fun x => decide (x ∈ vb) && decide (x ∈ z)) (r := fun x => decide (x ∈ va) || decide (x ∈ vb)) (fun x => by
      by_cases q1 : x ∈ va <;> by_cases q2 : x ∈ vb <;> by_cases q3 : x ∈ y <;> by_cases q4 : x ∈ z <;> simp [q1, q2, q3, q4]
      exact hm ⟨x, q3, q4, q1, q2⟩)
    omega
def woF (l : List Int) (s : Int) : List Int := l.filter fun y => y != s
theorem woF_take {l : List Int} {s : Int} {n : Nat} {x : Int} (h : l[n]? = some x) : woF (l.take (n + 1)) s = woF (l.take n) s ++ (if x = s then [] else [x]) := by
  unfold woF; rw [List.take_add_one, h, Option.toList_some, List.filter_append]
  congr 1
  by_cases e : x = s <;> simp [e]
theorem woF_len (l : List Int) (s : Int) : (woF l s).length ≤ l.length := List.length_filter_le _ _
theorem mem_woF {l : List Int} {s x : Int} : x ∈ woF l s ↔ x ∈ l ∧ x ≠ s := by simp [woF]
def err : D := .tup [cf [] [], .int .i64 22]
def proF (v l : List Int) (s : Int) : D := if mayC v l && decide (s ∈ l) then .tup [cf (withF v s) (woF l s), .int .i64 0] else err
def remF (v l : List Int) (s : Int) : D := if mayC v l && decide (s ∈ memF v l) && !(woF v s).isEmpty then .tup [cf (woF v s) (woF l s), .int .i64 0] else err
theorem cf_def (v l : List Int) : cf v l = .agg [.list (v.map (D.int .i64)), .list (l.map (D.int .i64))] := rfl
theorem add_some (v l : List Int) (s : Int) : ∃ (v' l' : List Int) (e : Int), addF v l s = .tup [.agg [.list (v'.map (D.int .i64)), .list (l'.map (D.int .i64))], .int .i64 e] := by
  unfold addF; split
  · exact ⟨_, _, _, rfl⟩
  · exact ⟨[], [], _, rfl⟩
theorem pro_some (v l : List Int) (s : Int) : ∃ (v' l' : List Int) (e : Int), proF v l s = .tup [.agg [.list (v'.map (D.int .i64)), .list (l'.map (D.int .i64))], .int .i64 e] := by
  unfold proF; split
  · exact ⟨_, _, _, rfl⟩
  · exact ⟨[], [], _, rfl⟩
theorem rem_some (v l : List Int) (s : Int) : ∃ (v' l' : List Int) (e : Int), remF v l s = .tup [.agg [.list (v'.map (D.int .i64)), .list (l'.map (D.int .i64))], .int .i64 e] := by
  unfold remF; split
  · exact ⟨_, _, _, rfl⟩
  · exact ⟨[], [], _, rfl⟩
theorem risB_iff : ∀ {l : List Int} {p : Int}, risB p l = true ↔ l.Pairwise (· < ·) ∧ ∀ x ∈ l, 1 ≤ x ∧ x ≤ 5 ∧ p < x
  | [], p => by simp [risB]
  | y :: r, p => by
    simp only [risB, Bool.and_eq_true, decide_eq_true_eq, risB_iff (l := r), List.pairwise_cons, List.mem_cons, forall_eq_or_imp]
    constructor
    · rintro ⟨⟨⟨h1, h2⟩, h3⟩, h4, h5⟩
      exact ⟨⟨fun x hx => (h5 x hx).2.2, h4⟩, ⟨h1, h2, h3⟩, fun x hx => ⟨(h5 x hx).1, (h5 x hx).2.1, by have := (h5 x hx).2.2; omega⟩⟩
    · rintro ⟨⟨h1, h2⟩, ⟨h3, h4, h5⟩, h6⟩
      exact ⟨⟨⟨h3, h4⟩, h5⟩, h2, fun x hx => ⟨(h6 x hx).1, (h6 x hx).2.1, h1 x hx⟩⟩
/-- Servers that may be, as sets. -/
theorem mayC_set {v l : List Int} : mayC v l = true ↔ (v.Pairwise (· < ·) ∧ ∀ x ∈ v, 1 ≤ x ∧ x ≤ 5) ∧ (l.Pairwise (· < ·) ∧ ∀ x ∈ l, 1 ≤ x ∧ x ≤ 5) ∧ v ≠ [] ∧ ∀ x ∈ l, x ∉ v := by
  rw [mayC_iff, risB_iff, risB_iff]
  constructor
  · rintro ⟨⟨h1, h2⟩, ⟨h3, h4⟩, h5, h6⟩
    exact ⟨⟨h1, fun x hx => ⟨(h2 x hx).1, (h2 x hx).2.1⟩⟩, ⟨h3, fun x hx => ⟨(h4 x hx).1, (h4 x hx).2.1⟩⟩, h5, h6⟩
  · rintro ⟨⟨h1, h2⟩, ⟨h3, h4⟩, h5, h6⟩
    exact ⟨⟨h1, fun x hx => ⟨(h2 x hx).1, (h2 x hx).2, by have := (h2 x hx).1; omega⟩⟩, ⟨h3, fun x hx => ⟨(h4 x hx).1, (h4 x hx).2, by have := (h4 x hx).1; omega⟩⟩, h5, h6⟩
theorem putF_perm {s : Int} : ∀ {l : List Int}, s ∉ l → (l ++ [s]).Perm (putF l s)
  | [], _ => List.Perm.refl _
  | y :: r, h => by
    simp only [List.mem_cons, not_or] at h
    unfold putF
    split
    · exact (putF_perm h.2).cons y
    · split
      · rename_i e; exact absurd e.symm h.1
      · exact List.perm_append_singleton s (y :: r)
theorem with_put {l : List Int} {s : Int} (hl : l.Pairwise (· < ·)) (hs : s ∉ l) : withF l s = putF l s :=
  sortI_eq (putF_perm hs) ((putF_ok hl).1.imp (fun h => Int.le_of_lt h))
theorem mem_withF {l : List Int} {s x : Int} : x ∈ withF l s ↔ x ∈ l ∨ x = s := by
  unfold withF; rw [mem_sortI, List.mem_append, List.mem_singleton]
theorem with_strict {l : List Int} {s : Int} (hl : l.Pairwise (· < ·)) (hs : s ∉ l) : (withF l s).Pairwise (· < ·) := by
  rw [with_put hl hs]; exact (putF_ok hl).1
theorem woF_strict {l : List Int} {s : Int} (hl : l.Pairwise (· < ·)) : (woF l s).Pairwise (· < ·) := hl.filter _
theorem difF_one {a b : List Int} {s : Int} (h : ∀ x, x ≠ s → (x ∈ a ↔ x ∈ b)) : ∀ n, difF a b n ≤ 1 ∧ ((n : Int) ≤ s → difF a b n = 0)
  | 0 => ⟨Nat.zero_le _, fun _ => rfl⟩
  | n + 1 => by
    obtain ⟨h1, h2⟩ := difF_one h n
    rw [difF_succ]
    by_cases e : (n : Int) = s
    · have h0 := h2 (by omega)
      refine ⟨by rw [h0]; split <;> omega, fun h3 => by omega⟩
    · have hx := h n e
      have hb : (decide ((n : Int) ∈ a) != decide ((n : Int) ∈ b)) = false := by simp [hx]
      rw [hb, if_neg (by simp)]
      exact ⟨h1, fun h3 => h2 (by omega)⟩
theorem sin_one {v l v' l' : List Int} {s : Int} (h1 : mayC v l = true) (h2 : mayC v' l' = true) (h : ∀ x, x ≠ s → (x ∈ v ↔ x ∈ v')) : sinF v l v' l' = true := by
  unfold sinF; rw [h1, h2]; simp [(difF_one h 6).1]
/-- A learner more; a voter more; a server less. -/
theorem may_add {v l : List Int} {s : Int} (h : mayC v l = true) (h1 : 1 ≤ s) (h2 : s ≤ 5) (hv : s ∉ v) (hl : s ∉ l) : mayC v (withF l s) = true := by
  obtain ⟨a, b, c, d⟩ := mayC_set.1 h
  refine mayC_set.2 ⟨a, ⟨with_strict b.1 hl, fun x hx => ?_⟩, c, fun x hx => ?_⟩
  · rcases mem_withF.1 hx with hx | rfl
    · exact b.2 x hx
    · exact ⟨h1, h2⟩
  · rcases mem_withF.1 hx with hx | rfl
    · exact d x hx
    · exact hv
theorem may_pro {v l : List Int} {s : Int} (h : mayC v l = true) (hl : s ∈ l) : mayC (withF v s) (woF l s) = true := by
  obtain ⟨a, b, c, d⟩ := mayC_set.1 h
  refine mayC_set.2 ⟨⟨with_strict a.1 (d s hl), fun x hx => ?_⟩, ⟨woF_strict b.1, fun x hx => b.2 x (mem_woF.1 hx).1⟩, fun e => ?_, fun x hx hv => ?_⟩
  · rcases mem_withF.1 hx with hx | rfl
    · exact a.2 x hx
    · exact b.2 x hl
  · have : s ∈ withF v s := mem_withF.2 (.inr rfl)
    rw [e] at this; simp at this
  · obtain ⟨h3, h4⟩ := mem_woF.1 hx
    rcases mem_withF.1 hv with hv | hv
    · exact d x h3 hv
    · exact h4 hv
theorem may_rem {v l : List Int} {s : Int} (h : mayC v l = true) (hne : woF v s ≠ []) : mayC (woF v s) (woF l s) = true := by
  obtain ⟨a, b, c, d⟩ := mayC_set.1 h
  exact mayC_set.2 ⟨⟨woF_strict a.1, fun x hx => a.2 x (mem_woF.1 hx).1⟩, ⟨woF_strict b.1, fun x hx => b.2 x (mem_woF.1 hx).1⟩, hne, fun x hx hv => d x (mem_woF.1 hx).1 (mem_woF.1 hv).1⟩
theorem difF_ris {a b : List Int} (ha : risB 0 a = true) (hb : risB 0 b = true) : difF a b 1 = 0 := by
  have h1 : (0 : Int) ∉ a := fun h => by have := risB_mem ha 0 h; omega
  have h2 : (0 : Int) ∉ b := fun h => by have := risB_mem hb 0 h; omega
  have := difF_succ a b 0
  rw [this]
  simp [difF, h1, h2]
def five : List Int := [1, 2, 3, 4, 5]
theorem mem_five {x : Int} : x ∈ five ↔ 1 ≤ x ∧ x ≤ 5 := by simp [five]; omega
theorem five_strict : five.Pairwise (· < ·) := by decide
def fv (n last : Int) : List Int := five.filter fun y => decide (n ≤ y) || decide (y = last)
theorem mem_fv {n last x : Int} : x ∈ fv n last ↔ (1 ≤ x ∧ x ≤ 5) ∧ (n ≤ x ∨ x = last) := by simp [fv, mem_five]
theorem fv_one (last : Int) : fv 1 last = five := by
  refine strict_ext (five_strict.filter _) five_strict fun x => ?_
  rw [mem_fv, mem_five]; exact ⟨fun h => h.1, fun h => ⟨h, .inl h.1⟩⟩
theorem fv_step {n last : Int} (h : n ≠ last) : woF (fv n last) n = fv (n + 1) last := by
  refine strict_ext (woF_strict (five_strict.filter _)) (five_strict.filter _) fun x => ?_
  rw [mem_woF]
  show x ∈ fv n last ∧ x ≠ n ↔ x ∈ fv (n + 1) last
  rw [mem_fv, mem_fv]
  omega
theorem fv_skip {n : Int} : fv n n = fv (n + 1) n := by
  refine strict_ext (five_strict.filter _) (five_strict.filter _) fun x => ?_
  show x ∈ fv n n ↔ x ∈ fv (n + 1) n
  rw [mem_fv, mem_fv]
  omega
theorem fv_end {last : Int} (h1 : 1 ≤ last) (h2 : last ≤ 5) : fv 6 last = [last] := by
  refine strict_ext (five_strict.filter _) (by simp) fun x => ?_
  show x ∈ fv 6 last ↔ x ∈ [last]
  rw [mem_fv, List.mem_singleton]
  omega
theorem fv_ne {n last : Int} (h1 : 1 ≤ last) (h2 : last ≤ 5) : fv n last ≠ [] := fun e => by
  have : last ∈ fv n last := mem_fv.2 ⟨⟨h1, h2⟩, .inr rfl⟩
  rw [e] at this; simp at this
theorem fv_may {n last : Int} (h1 : 1 ≤ last) (h2 : last ≤ 5) : mayC (fv n last) [] = true :=
  mayC_set.2 ⟨⟨five_strict.filter _, fun x hx => (mem_fv.1 hx).1⟩, ⟨List.Pairwise.nil, by simp⟩, fv_ne h1 h2, by simp⟩
theorem all_five {v l : List Int} (h : mayC v l = true) (hall : ∀ k : Int, 1 ≤ k → k ≤ 5 → k ∈ v) : v = five ∧ l = [] := by
  obtain ⟨a, b, c, d⟩ := mayC_set.1 h
  refine ⟨strict_ext a.1 five_strict fun x => ⟨fun hx => mem_five.2 (a.2 x hx), fun hx => hall x (mem_five.1 hx).1 (mem_five.1 hx).2⟩, ?_⟩
  cases l with
  | nil => rfl
  | cons x r =>
    have hx := b.2 x (by simp)
    exact absurd (hall x hx.1 hx.2) (d x (by simp))
/-- One server is grown to a voter. -/
theorem grow_in {v l : List Int} {s : Int} (h : mayC v l = true) (hs : s ∈ v) : addF v l s = err ∧ proF v l s = err := by
  have h1 : addOk v l s = false := by
    rw [Bool.eq_false_iff]; intro hk
    simp only [addOk, Bool.and_eq_true, decide_eq_true_eq] at hk
    exact hk.2 (mem_memF.2 (.inl hs))
  have h2 : s ∉ l := fun hl => (mayC_set.1 h).2.2.2 s hl hs
  constructor
  · unfold addF; rw [h1]; rfl
  · unfold proF; rw [if_neg (by simp [h2])]
theorem grow_learn {v l : List Int} {s : Int} (h : mayC v l = true) (hs : s ∈ l) : addF v l s = err ∧ proF v l s = .tup [cf (withF v s) (woF l s), .int .i64 0] ∧ mayC (withF v s) (woF l s) = true ∧ sinF v l (withF v s) (woF l s) = true := by
  have h1 : addOk v l s = false := by
    rw [Bool.eq_false_iff]; intro hk
    simp only [addOk, Bool.and_eq_true, decide_eq_true_eq] at hk
    exact hk.2 (mem_memF.2 (.inr hs))
  refine ⟨by unfold addF; rw [h1]; rfl, by unfold proF; rw [if_pos (by simp [h, hs])], may_pro h hs, sin_one h (may_pro h hs) (s := s) fun x hx => ?_⟩
  rw [mem_withF]; exact ⟨.inl, fun q => q.elim id fun e => absurd e hx⟩
theorem grow_new {v l : List Int} {s : Int} (h : mayC v l = true) (h1 : 1 ≤ s) (h2 : s ≤ 5) (hv : s ∉ v) (hl : s ∉ l) : addF v l s = .tup [cf v (withF l s), .int .i64 0] ∧ mayC v (withF l s) = true ∧ s ∈ withF l s := by
  have hok : addOk v l s = true := by
    have : s ∉ memF v l := fun hm => (mem_memF.1 hm).elim hv hl
    simp [addOk, h, h1, h2, this]
  exact ⟨by unfold addF; rw [if_pos hok], may_add h h1 h2 hv hl, mem_withF.2 (.inr rfl)⟩
theorem rem_ok {v l : List Int} {s : Int} (h : mayC v l = true) (hs : s ∈ v) (hne : woF v s ≠ []) : remF v l s = .tup [cf (woF v s) (woF l s), .int .i64 0] ∧ mayC (woF v s) (woF l s) = true ∧ sinF v l (woF v s) (woF l s) = true := by
  refine ⟨by unfold remF; rw [if_pos (by simp [h, mem_memF.2 (.inl hs), hne])], may_rem h hne, sin_one h (may_rem h hne) (s := s) fun x hx => ?_⟩
  rw [mem_woF]; exact ⟨fun q => ⟨q, hx⟩, fun q => q.1⟩
theorem rem_last (s : Int) : remF [s] [] s = err := by
  unfold remF; rw [if_neg (by simp [woF])]

/-- What each function gives. -/
def phi (f : Nat) (ds : List D) : D :=
  let a := ds.getD 0 .top; let b := ds.getD 1 .top; let c := ds.getD 2 .top; let d := ds.getD 3 .top
  match f with
  | 38 => .int .i64 (findF (fun y => y == b.toI) (intsOf a) 0)
  | 22 => .bool (decide (b.toI ∈ intsOf a))
  | 23 => clonePhi ds
  | 35 => sortPhi ds
  | 36 => compPhi ds
  | 34 => .bool (decide (intsOf a = intsOf b))
  | 33 => .bool (risB 0 (intsOf a))
  | 16 => .bool (mayC (vo a) (lr a))
  | 18 => .bool (decide (vo a = vo b) && decide (lr a = lr b))
  | 17 => .bool (decide (b.toI ∈ vo a))
  | 20 => .list ((memF (vo a) (lr a)).map (D.int .i64))
  | 31 => .bool (majF (vo a) (intsOf b))
  | 32 => .int .i64 (agrF (vo a) (intsOf b))
  | 6 => .bool (sinF (vo a) (lr a) (vo b) (lr b))
  | 24 => .list ((withF (intsOf a) b.toI).map (D.int .i64))
  | 8 => addF (vo a) (lr a) b.toI
  | 19 => .bool (decide (b.toI ∈ intsOf a))
  | 37 => .bool (risB 0 (intsOf a))
  | 21 => .bool (mayC (vo a) (lr a))
  | 28 => .bool (decide (intsOf a = intsOf b))
  | 10 => .bool (decide (vo a = vo b) && decide (lr a = lr b))
  | 27 => .list ((putF (intsOf a) b.toI).map (D.int .i64))
  | 25 => .list ((rmemF (vo a) (lr a)).map (D.int .i64))
  | 15 => .bool true
  | 29 => .list ((woF (intsOf a) b.toI).map (D.int .i64))
  | 11 => proF (vo a) (lr a) b.toI
  | 13 => remF (vo a) (lr a) b.toI
  | 7 => .bool (sinF (vo a) (lr a) (vo b) (lr b))
  | 26 => .list ((intsOf a).map (D.int .i64))
  | 30 => .list ((woF (intsOf a) b.toI).map (D.int .i64))
  | 9 => addF (vo a) (lr a) b.toI
  | 12 => proF (vo a) (lr a) b.toI
  | 14 => remF (vo a) (lr a) b.toI
  | 3 => .bool true
  | 4 => .bool true
  | 5 => .bool true
  | _ => .bool true
def pre (f : Nat) (ds : List D) : Prop :=
  let a := ds.getD 0 .top; let b := ds.getD 1 .top; let c := ds.getD 2 .top; let d := ds.getD 3 .top
  match f with
  | 20 => ((vo a).length + (lr a).length) * 8 ≤ 140737488355328
  | 24 => (intsOf a).length * 8 ≤ 140737488355320
  | 27 => (intsOf a).length * 8 ≤ 140737488355320
  | 25 => ((vo a).length + (lr a).length) * 8 ≤ 140737488355320
  | 9 => ((vo a).length + (lr a).length) * 8 ≤ 140737488355320
  | 14 => ((vo a).length + (lr a).length) * 8 ≤ 140737488355320
  | 3 => wtL ds ≤ 1048576
  | 5 => wtL ds ≤ 1048576
  | _ => True
theorem mix : Try.prog.follows .mixedOrders = true := by kernel_rfl

section
variable (l r v w : List Int) (b : Int)
theorem hIdx : phi 38 [.list (l.map (D.int .i64)), .int .i64 b] = .int .i64 (findF (fun y => y == b) l 0) := by simp [phi, intsOf_list, toI_int]
theorem hCon : phi 22 [.list (l.map (D.int .i64)), .int .i64 b] = .bool (decide (b ∈ l)) := by simp [phi, intsOf_list, toI_int]
theorem hClo : phi 23 [.list (l.map (D.int .i64))] = .list (l.map (D.int .i64)) := rfl
theorem hSor : phi 35 [.list (l.map (D.int .i64))] = .list ((sortI l).map (D.int .i64)) := by simp [phi, sortPhi, intsOf_list]
theorem hSor2 : phi 35 [.list (l.map (D.int .i64) ++ r.map (D.int .i64))] = .list ((sortI (l ++ r)).map (D.int .i64)) := by rw [← List.map_append]; exact hSor _
theorem hSor1 : phi 35 [.list (l.map (D.int .i64) ++ [.int .i64 b])] = .list ((sortI (l ++ [b])).map (D.int .i64)) := hSor2 l [b]
theorem hCmp : phi 36 [.list (l.map (D.int .i64))] = .list ((Lib.compact l).map (D.int .i64)) := by simp [phi, compPhi, intsOf_list]
theorem hEq : phi 34 [.list (l.map (D.int .i64)), .list (r.map (D.int .i64))] = .bool (decide (l = r)) := by simp [phi, intsOf_list]
theorem hRis : phi 33 [.list (l.map (D.int .i64))] = .bool (risB 0 l) := by simp [phi, intsOf_list]
theorem hMay : phi 16 [.agg [.list (v.map (D.int .i64)), .list (l.map (D.int .i64))]] = .bool (mayC v l) := by simp [phi, vo_cf, lr_cf]
theorem hSam : phi 18 [.agg [.list (v.map (D.int .i64)), .list (l.map (D.int .i64))], .agg [.list (w.map (D.int .i64)), .list (r.map (D.int .i64))]] = .bool (decide (v = w) && decide (l = r)) := by simp [phi, vo_cf, lr_cf]
theorem hVot : phi 17 [.agg [.list (v.map (D.int .i64)), .list (l.map (D.int .i64))], .int .i64 b] = .bool (decide (b ∈ v)) := by simp [phi, vo_cf, toI_int]
theorem hMem : phi 20 [.agg [.list (v.map (D.int .i64)), .list (l.map (D.int .i64))]] = .list ((memF v l).map (D.int .i64)) := by simp [phi, vo_cf, lr_cf]
theorem hMaj : phi 31 [.agg [.list (v.map (D.int .i64)), .list (l.map (D.int .i64))], .list (r.map (D.int .i64))] = .bool (majF v r) := by simp [phi, vo_cf, intsOf_list]
theorem hAgr : phi 32 [.agg [.list (v.map (D.int .i64)), .list (l.map (D.int .i64))], .list (r.map (D.int .i64))] = .int .i64 (agrF v r) := by simp [phi, vo_cf, intsOf_list]
theorem hSin : phi 6 [.agg [.list (v.map (D.int .i64)), .list (l.map (D.int .i64))], .agg [.list (w.map (D.int .i64)), .list (r.map (D.int .i64))]] = .bool (sinF v l w r) := by simp [phi, vo_cf, lr_cf]
theorem hWit : phi 24 [.list (l.map (D.int .i64)), .int .i64 b] = .list ((withF l b).map (D.int .i64)) := by simp [phi, intsOf_list, toI_int]
theorem hAdd : phi 8 [.agg [.list (v.map (D.int .i64)), .list (l.map (D.int .i64))], .int .i64 b] = addF v l b := by simp [phi, vo_cf, lr_cf, toI_int]
theorem hInR : phi 19 [.list (l.map (D.int .i64)), .int .i64 b] = .bool (decide (b ∈ l)) := by simp [phi, intsOf_list, toI_int]
theorem hRisR : phi 37 [.list (l.map (D.int .i64))] = .bool (risB 0 l) := by simp [phi, intsOf_list]
theorem hMayR : phi 21 [.agg [.list (v.map (D.int .i64)), .list (l.map (D.int .i64))]] = .bool (mayC v l) := by simp [phi, vo_cf, lr_cf]
theorem hEqR : phi 28 [.list (l.map (D.int .i64)), .list (r.map (D.int .i64))] = .bool (decide (l = r)) := by simp [phi, intsOf_list]
theorem hSamR : phi 10 [.agg [.list (v.map (D.int .i64)), .list (l.map (D.int .i64))], .agg [.list (w.map (D.int .i64)), .list (r.map (D.int .i64))]] = .bool (decide (v = w) && decide (l = r)) := by simp [phi, vo_cf, lr_cf]
theorem hPut : phi 27 [.list (l.map (D.int .i64)), .int .i64 b] = .list ((putF l b).map (D.int .i64)) := by simp [phi, intsOf_list, toI_int]
theorem hMemR : phi 25 [.agg [.list (v.map (D.int .i64)), .list (l.map (D.int .i64))]] = .list ((rmemF v l).map (D.int .i64)) := by simp [phi, vo_cf, lr_cf]
theorem hLiv : phi 15 [] = .bool true := rfl
theorem hWo : phi 29 [.list (l.map (D.int .i64)), .int .i64 b] = .list ((woF l b).map (D.int .i64)) := by simp [phi, intsOf_list, toI_int]
theorem hWoR : phi 30 [.list (l.map (D.int .i64)), .int .i64 b] = .list ((woF l b).map (D.int .i64)) := by simp [phi, intsOf_list, toI_int]
theorem hOwn : phi 26 [.list (l.map (D.int .i64))] = .list (l.map (D.int .i64)) := by simp [phi, intsOf_list]
theorem hPro : phi 11 [.agg [.list (v.map (D.int .i64)), .list (l.map (D.int .i64))], .int .i64 b] = proF v l b := by simp [phi, vo_cf, lr_cf, toI_int]
theorem hProR : phi 12 [.agg [.list (v.map (D.int .i64)), .list (l.map (D.int .i64))], .int .i64 b] = proF v l b := by simp [phi, vo_cf, lr_cf, toI_int]
theorem hRem : phi 13 [.agg [.list (v.map (D.int .i64)), .list (l.map (D.int .i64))], .int .i64 b] = remF v l b := by simp [phi, vo_cf, lr_cf, toI_int]
theorem hRemR : phi 14 [.agg [.list (v.map (D.int .i64)), .list (l.map (D.int .i64))], .int .i64 b] = remF v l b := by simp [phi, vo_cf, lr_cf, toI_int]
theorem hAddR : phi 9 [.agg [.list (v.map (D.int .i64)), .list (l.map (D.int .i64))], .int .i64 b] = addF v l b := by simp [phi, vo_cf, lr_cf, toI_int]
theorem hSinR : phi 7 [.agg [.list (v.map (D.int .i64)), .list (l.map (D.int .i64))], .agg [.list (w.map (D.int .i64)), .list (r.map (D.int .i64))]] = .bool (sinF v l w r) := by simp [phi, vo_cf, lr_cf]
end
end Go.Proofs.Ytcmejjgjkjiggab
