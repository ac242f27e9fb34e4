/-
  What each function of this seat computes.
-/
import Derived.Test.YtgljfheohnlpfaaV
import Derived.KernelRfl
set_option linter.unusedSimpArgs false
set_option linter.unusedVariables false
namespace Go.Proofs.Ytgljfheohnlpfaa
open Go Go.Eng Go.Proofs

def MX : Int := 1099511627776
def ix (d : D) : Int := I d 0
def tm (d : D) : Int := I d 1
/-- Entries that follow one another, from an entry on. -/
def chB : Int → Int → List D → Bool
  | _, _, [] => true
  | i, t, x :: r => (ix x == i + 1) && decide (t ≤ tm x) && decide (ix x ≤ MX) && decide (tm x ≤ MX) && chB (ix x) (tm x) r
def okB (i t : Int) : Bool := decide (0 ≤ i) && decide (i ≤ MX) && decide (0 ≤ t) && decide (t ≤ MX)
def mayB (i t : Int) (l : List D) : Bool := okB i t && chB i t l
def lastT : Int → List D → Int
  | t, [] => t
  | _, x :: r => lastT (tm x) r
theorem okB_iff {i t : Int} : okB i t = true ↔ 0 ≤ i ∧ i ≤ MX ∧ 0 ≤ t ∧ t ≤ MX := by simp [okB, and_assoc]
theorem chB_cons {i t : Int} {x : D} {r : List D} : chB i t (x :: r) = true ↔ ix x = i + 1 ∧ t ≤ tm x ∧ ix x ≤ MX ∧ tm x ≤ MX ∧ chB (ix x) (tm x) r = true := by simp [chB, and_assoc]
theorem chB_append : ∀ {a b : List D} {i t : Int}, chB i t (a ++ b) = true ↔ chB i t a = true ∧ chB (i + a.length) (lastT t a) b = true
  | [], b, i, t => by simp [chB, lastT]
  | x :: a, b, i, t => by
    rw [List.cons_append, chB_cons, chB_cons, chB_append (a := a)]
    constructor
    · rintro ⟨h1, h2, h3, h4, h5, h6⟩
      refine ⟨⟨h1, h2, h3, h4, h5⟩, ?_⟩
      simp only [lastT, List.length_cons]
      rw [show i + ((a.length + 1 : Nat) : Int) = ix x + a.length by omega]
      exact h6
    · rintro ⟨⟨h1, h2, h3, h4, h5⟩, h6⟩
      refine ⟨h1, h2, h3, h4, h5, ?_⟩
      simp only [lastT, List.length_cons] at h6
      rw [show i + ((a.length + 1 : Nat) : Int) = ix x + a.length by omega] at h6
      exact h6
theorem lastT_append : ∀ {a b : List D} {t : Int}, lastT t (a ++ b) = lastT (lastT t a) b
  | [], _, _ => rfl
  | x :: a, b, t => by simp only [List.cons_append, lastT, lastT_append (a := a)]
theorem lastT_get : ∀ {l : List D} {t : Int} {x : D}, l[l.length - 1]? = some x → lastT t l = tm x
  | [], t, x, h => by simp at h
  | [y], t, x, h => by simp at h; subst h; rfl
  | y :: z :: r, t, x, h => by
    have := lastT_get (l := z :: r) (t := tm y) (x := x) (by simpa using h)
    simpa [lastT] using this
theorem ch_get {l : List D} {i t : Int} {n : Nat} {x : D} (h : chB i t l = true) (hx : l[n]? = some x) : ix x = i + n + 1 ∧ lastT t (l.take n) ≤ tm x ∧ ix x ≤ MX ∧ tm x ≤ MX := by
  have hlt := (List.getElem?_eq_some_iff.1 hx).1
  have e : l = l.take n ++ x :: l.drop (n + 1) := by
    have h1 := List.drop_eq_getElem_cons hlt
    rw [(List.getElem?_eq_some_iff.1 hx).2] at h1
    rw [← h1, List.take_append_drop]
  rw [e, chB_append, chB_cons] at h
  obtain ⟨_, h1, h2, h3, h4, _⟩ := h
  have hl : (l.take n).length = n := by simp; omega
  rw [hl] at h1
  exact ⟨h1, h2, h3, h4⟩
theorem lastT_take {l : List D} {t : Int} {n : Nat} {x : D} (hx : l[n]? = some x) : lastT t (l.take (n + 1)) = tm x := by
  rw [List.take_add_one, hx, Option.toList_some, lastT_append]; rfl
theorem ch_take {l : List D} {i t : Int} (n : Nat) (h : chB i t l = true) : chB i t (l.take n) = true := by
  rw [← List.take_append_drop n l, chB_append] at h; exact h.1
theorem ch_drop {l : List D} {i t : Int} (n : Nat) (hn : n ≤ l.length) (h : chB i t l = true) : chB (i + n) (lastT t (l.take n)) (l.drop n) = true := by
  rw [← List.take_append_drop n l, chB_append] at h
  have := h.2
  rwa [List.length_take, Nat.min_eq_left hn] at this
theorem lastT_ge : ∀ {l : List D} {i t : Int}, chB i t l = true → t ≤ lastT t l
  | [], _, _, _ => Int.le_refl _
  | x :: r, i, t, h => by
    obtain ⟨_, h2, _, _, h5⟩ := chB_cons.1 h
    have := lastT_ge h5
    simp only [lastT]; omega
theorem lastT_le : ∀ {l : List D} {i t : Int}, t ≤ MX → chB i t l = true → lastT t l ≤ MX
  | [], _, _, h, _ => h
  | x :: r, i, t, _, h => by
    obtain ⟨_, _, _, h4, h5⟩ := chB_cons.1 h
    exact lastT_le (l := r) h4 h5
theorem ch_len : ∀ {l : List D} {i t : Int}, i ≤ MX → chB i t l = true → i + l.length ≤ MX
  | [], i, _, h, _ => by simpa using h
  | x :: r, i, t, _, h => by
    obtain ⟨h1, _, h3, _, h5⟩ := chB_cons.1 h
    have := ch_len h3 h5
    simp only [List.length_cons]; omega
theorem mayB_iff {i t : Int} {l : List D} : mayB i t l = true ↔ (0 ≤ i ∧ i ≤ MX ∧ 0 ≤ t ∧ t ≤ MX) ∧ chB i t l = true := by simp [mayB, okB_iff]
/-- An entry's term, and a code. -/
def termF (i t : Int) (l : List D) (k : Int) : Int × Int :=
  if k < i then (0, 23) else if k = i then (t, 0) else match l[(k - i - 1).toNat]? with
    | some x => (tm x, 0)
    | none => (0, 3)
def sliceF (i : Int) (l : List D) (f m : Int) : List D := if m < 1 ∨ f ≤ i then [] else (l.drop (f - i - 1).toNat).take m.toNat
def newerF (i t : Int) (l : List D) (index term : Int) : Bool := decide (term > lastT t l) || (decide (term = lastT t l) && decide (index ≥ i + l.length))
def entZ : D := .agg [.int .i64 0, .int .i64 0, .int .i64 0, .int .i64 0, .int .i64 0, .int .i64 0, .int .i64 0, .int .i64 0, .int .i64 0, .list [], .int .i64 0, .bool false, .int .i64 0, .int .i64 0, .int .i64 0, .bool false, .bool false, .int .i64 0, .int .i64 0, .int .i64 0, .list [], .int .i64 0, .int .i64 0, .int .i64 0, .list [], .list [], .bool false, .list [], .list []]
def newE (i t : Int) (l : List D) (term : Int) (cmd : D) : D := .agg (.int .i64 (i + l.length + 1) :: .int .i64 term :: cmd.toL)
def putC (i t : Int) (l : List D) (term : Int) : Int := if term < lastT t l ∨ term < 1 ∨ MX < term then 1 else if MX ≤ i + l.length then 2 else 0
def putX (i t : Int) (l : List D) (term : Int) (cmd : D) : D := if putC i t l term = 0 then newE i t l term cmd else entZ
def putL (i t : Int) (l : List D) (term : Int) (cmd : D) : List D := if putC i t l term = 0 then l ++ [newE i t l term cmd] else l
def compC (i : Int) (l : List D) (k : Int) : Int := if i + l.length < k then 3 else 0
def compS (i t : Int) (l : List D) (k : Int) : Int × Int × List D := if i + l.length < k ∨ k ≤ i then (i, t, l) else (k, (termF i t l k).1, l.drop (k - i).toNat)
def hasE (i t : Int) (l : List D) (x : D) : Bool := (termF i t l (ix x)).2 == 0 && (termF i t l (ix x)).1 == tm x
def accL (i t : Int) (l : List D) : List D → Int × List D
  | [] => (0, l)
  | x :: r => if hasE i t l x then accL i t l r else (ix x, l.take (ix x - i - 1).toNat ++ x :: r)
def accOk (i t : Int) (l : List D) (pi pt : Int) (es : List D) : Bool := mayB pi pt es && (termF i t l pi).2 == 0 && (termF i t l pi).1 == pt
def accF (i t : Int) (l : List D) (pi pt : Int) (es : List D) : Int × List D := if accOk i t l pi pt es then accL i t l es else (0, l)
theorem termF_ok {i t : Int} {l : List D} {k : Int} (h : (termF i t l k).2 = 0) : i ≤ k ∧ k ≤ i + l.length ∧ (termF i t l k).1 = lastT t (l.take (k - i).toNat) := by
  unfold termF at h ⊢
  split at h
  · simp at h
  · split at h
    · rename_i h1 h2; subst h2; rw [if_neg (by omega), if_pos rfl]; exact ⟨by omega, by omega, by simp [lastT]⟩
    · rename_i h1 h2
      split at h
      · rename_i x hx
        have hlt := (List.getElem?_eq_some_iff.1 hx).1
        rw [if_neg h1, if_neg h2]
        refine ⟨by omega, by omega, ?_⟩
        simp only [hx]
        rw [show (k - i).toNat = (k - i - 1).toNat + 1 by omega, lastT_take hx]
      · simp at h
/-- What is accepted follows. -/
theorem accL_ch {i t : Int} {l : List D} (hl : chB i t l = true) : ∀ {es : List D} {n : Nat}, n ≤ l.length → chB (i + n) (lastT t (l.take n)) es = true → chB i t (accL i t l es).2 = true ∧ (accL i t l es).2.length ≤ l.length + es.length ∧
    (∀ x r, es = x :: r → hasE i t l x = false → ix x - i - 1 = n)
  | [], n, hn, h => ⟨hl, by simp [accL], by simp⟩
  | x :: r, n, hn, h => by
    obtain ⟨h1, h2, h3, h4, h5⟩ := chB_cons.1 h
    refine ⟨?_, ?_, fun y s e _ => by injection e with e1 e2; subst e1; omega⟩
    all_goals
      unfold accL
      by_cases hh : hasE i t l x = true
      · rw [if_pos hh]
        simp only [hasE, Bool.and_eq_true, beq_iff_eq] at hh
        obtain ⟨k1, k2, k3⟩ := termF_ok hh.1
        have hn1 : n + 1 ≤ l.length := by omega
        have e1 : (ix x - i).toNat = n + 1 := by omega
        rw [e1] at k3
        have hr : chB (i + ((n + 1 : Nat) : Int)) (lastT t (l.take (n + 1))) r = true := by
          rw [← k3, hh.2, show i + ((n + 1 : Nat) : Int) = ix x by omega]; exact h5
        have ih := accL_ch hl hn1 hr
        first
        | exact ih.1
        | (simp only [List.length_cons]; have := ih.2.1; omega)
      · rw [if_neg hh]
        have e : (ix x - i - 1).toNat = n := by omega
        rw [e]
        first
        | (rw [chB_append, List.length_take, Nat.min_eq_left hn]; exact ⟨ch_take n hl, h⟩)
        | (simp only [List.length_append, List.length_take, List.length_cons]; omega)
theorem chE_next {i t : Int} {l : List D} {s : Nat} {x : D} {r : List D} (hs : s ≤ l.length) (h : chB (i + s) (lastT t (l.take s)) (x :: r) = true) (hh : hasE i t l x = true) : s + 1 ≤ l.length ∧ chB (i + ((s + 1 : Nat) : Int)) (lastT t (l.take (s + 1))) r = true := by
  obtain ⟨h1, h2, h3, h4, h5⟩ := chB_cons.1 h
  simp only [hasE, Bool.and_eq_true, beq_iff_eq] at hh
  obtain ⟨k1, k2, k3⟩ := termF_ok hh.1
  have e1 : (ix x - i).toNat = s + 1 := by omega
  rw [e1] at k3
  refine ⟨by omega, ?_⟩
  rw [← k3, hh.2, show i + ((s + 1 : Nat) : Int) = ix x by omega]; exact h5
/-- Where a log has come to, that accepts entries. -/
def AJ (i t : Int) (l es : List D) (xs : List D) : Prop := ∃ n s : Nat, xs = [.int .i64 0, .bool false, .int .i64 n, .int .i64 i, .int .i64 t, .list l] ∧ n ≤ es.length ∧ s ≤ l.length ∧ chB (i + s) (lastT t (l.take s)) (es.drop n) = true ∧ accL i t l (es.drop n) = accL i t l es

theorem cmd_eta {x : D} (h : Has cmdT x) : [x.toL[0]?.getD .top, x.toL[1]?.getD .top, x.toL[2]?.getD .top, x.toL[3]?.getD .top, x.toL[4]?.getD .top, x.toL[5]?.getD .top, x.toL[6]?.getD .top, x.toL[7]?.getD .top, x.toL[8]?.getD .top, x.toL[9]?.getD .top, x.toL[10]?.getD .top, x.toL[11]?.getD .top, x.toL[12]?.getD .top, x.toL[13]?.getD .top, x.toL[14]?.getD .top, x.toL[15]?.getD .top, x.toL[16]?.getD .top, x.toL[17]?.getD .top, x.toL[18]?.getD .top, x.toL[19]?.getD .top, x.toL[20]?.getD .top, x.toL[21]?.getD .top, x.toL[22]?.getD .top, x.toL[23]?.getD .top, x.toL[24]?.getD .top, x.toL[25]?.getD .top, x.toL[26]?.getD .top] = x.toL := by
  obtain ⟨_, rfl, _, _, rfl, _, _, _, rfl, _, _, _, rfl, _, _, _, rfl, _, _, _, rfl, _, _, _, rfl, _, _, _, rfl, _, _, _, rfl, _, _, _, rfl, _, _, _, rfl, _, _, _, rfl, _, _, _, rfl, _, _, _, rfl, _, _, _, rfl, _, _, _, rfl, _, _, _, rfl, _, _, _, rfl, _, _, _, rfl, _, _, _, rfl, _, _, _, rfl, _, _, _, rfl, _, _, _, rfl, _, _, _, rfl, _, _, _, rfl, _, _, _, rfl, _, _, _, rfl, _, _, _, rfl, _, rfl⟩ := h
  rfl
theorem entT_bytes : entT.bytes = 320 := by kernel_rfl
def FM {α : Type} (l : List α) (k : Nat) (xs : List D) : Nat := l.length - (I (.list xs) k).toNat
def MJ (i t : Int) (l : List D) (xs : List D) : Prop := ∃ (n : Nat) (j u : Int), xs = [.bool false, .int .i64 j, .int .i64 u, .int .i64 n] ∧ n ≤ l.length ∧ okB j u = true ∧ chB j u (l.drop n) = chB i t l
def inR (n lo hi : Int) : Bool := decide (lo ≤ n) && decide (n ≤ hi)
def stD (i t : Int) (l : List D) : D := .agg [.int .i64 i, .int .i64 t, .list l]
theorem ent_at {x : D} (h : Has entT x) : x.toL[0]?.getD .top = .int .i64 (ix x) ∧ x.toL[1]?.getD .top = .int .i64 (tm x) ∧ inK .i64 (ix x) ∧ inK .i64 (tm x) := by
  obtain ⟨_, rfl, _, _, rfl, ⟨i, rfl, hi⟩, _, _, rfl, ⟨t, rfl, ht⟩, _⟩ := h
  exact ⟨rfl, rfl, hi, ht⟩
theorem get_getD {l : List D} {n : Nat} {x : D} (h : l[n]? = some x) : l.getD n .top = x := by rw [List.getD_eq_getElem?_getD, h]; rfl
theorem ent_eta {x : D} (h : Has entT x) : D.agg [x.toL[0]?.getD .top, x.toL[1]?.getD .top, x.toL[2]?.getD .top, x.toL[3]?.getD .top, x.toL[4]?.getD .top, x.toL[5]?.getD .top, x.toL[6]?.getD .top, x.toL[7]?.getD .top, x.toL[8]?.getD .top, x.toL[9]?.getD .top, x.toL[10]?.getD .top, x.toL[11]?.getD .top, x.toL[12]?.getD .top, x.toL[13]?.getD .top, x.toL[14]?.getD .top, x.toL[15]?.getD .top, x.toL[16]?.getD .top, x.toL[17]?.getD .top, x.toL[18]?.getD .top, x.toL[19]?.getD .top, x.toL[20]?.getD .top, x.toL[21]?.getD .top, x.toL[22]?.getD .top, x.toL[23]?.getD .top, x.toL[24]?.getD .top, x.toL[25]?.getD .top, x.toL[26]?.getD .top, x.toL[27]?.getD .top, x.toL[28]?.getD .top] = x := by
  obtain ⟨_, rfl, _, _, rfl, _, _, _, rfl, _, _, _, rfl, _, _, _, rfl, _, _, _, rfl, _, _, _, rfl, _, _, _, rfl, _, _, _, rfl, _, _, _, rfl, _, _, _, rfl, _, _, _, rfl, _, _, _, rfl, _, _, _, rfl, _, _, _, rfl, _, _, _, rfl, _, _, _, rfl, _, _, _, rfl, _, _, _, rfl, _, _, _, rfl, _, _, _, rfl, _, _, _, rfl, _, _, _, rfl, _, _, _, rfl, _, _, _, rfl, _, _, _, rfl, _, _, _, rfl, _, _, _, rfl, _, _, _, rfl, _, _, _, rfl, _, rfl⟩ := h
  rfl
theorem ix_cell {y : D} : (y.toL[0]?.getD D.top).toI = ix y := by show _ = (y.toL.getD 0 .top).toI; rw [List.getD_eq_getElem?_getD]
theorem tm_cell {y : D} : (y.toL[1]?.getD D.top).toI = tm y := by show _ = (y.toL.getD 1 .top).toI; rw [List.getD_eq_getElem?_getD]
theorem maxLen_le {n : Nat} (h : n ≤ 1099511627777) : n ≤ maxLen := Nat.le_trans h (by decide)
def thereF (i f : Int) (n : Nat) : Bool := decide (i < f) && decide (f ≤ i + n)
theorem there_zero {i f : Int} : thereF i f 0 = false := by simp [thereF]
theorem there_step {i f : Int} {n : Nat} {y : Int} (h : y = i + n + 1) : thereF i f (n + 1) = (thereF i f n || (y == f)) := by
  rw [Bool.eq_iff_iff]; simp only [thereF, Bool.and_eq_true, Bool.or_eq_true, decide_eq_true_eq, beq_iff_eq]; omega
theorem slice_nil {i f m : Int} : sliceF i [] f m = [] := by simp [sliceF]
theorem slice_len {i f m : Int} {l : List D} : (sliceF i l f m).length ≤ l.length := by
  unfold sliceF; split
  · simp
  · simp; omega
theorem slice_step {i f m : Int} {l : List D} {n : Nat} {x : D} (hx : l[n]? = some x) : sliceF i (l.take (n + 1)) f m = if thereF i f (n + 1) = true ∧ ((sliceF i (l.take n) f m).length : Int) < m then sliceF i (l.take n) f m ++ [x] else sliceF i (l.take n) f m := by
  have hlt := (List.getElem?_eq_some_iff.1 hx).1
  have et : l.take (n + 1) = l.take n ++ [x] := by rw [List.take_add_one, hx, Option.toList_some]
  unfold sliceF
  by_cases hc : m < 1 ∨ f ≤ i
  · rw [if_pos hc, if_pos hc, if_neg]
    simp only [thereF, Bool.and_eq_true, decide_eq_true_eq, List.length_nil]
    omega
  · rw [if_neg hc, if_neg hc]
    have hth : thereF i f (n + 1) = true ↔ (f - i - 1).toNat ≤ n := by simp only [thereF, Bool.and_eq_true, decide_eq_true_eq]; omega
    simp only [hth, et]
    by_cases hk : (f - i - 1).toNat ≤ n
    · rw [List.drop_append_of_le_length (by rw [List.length_take]; omega)]
      have hlen : ((l.take n).drop (f - i - 1).toNat).length = n - (f - i - 1).toNat := by rw [List.length_drop, List.length_take]; omega
      generalize hA : (l.take n).drop (f - i - 1).toNat = A at hlen ⊢
      by_cases hm : A.length < m.toNat
      · have h1 : (A ++ [x]).take m.toNat = A ++ [x] := List.take_of_length_le (by simp; omega)
        have h2 : A.take m.toNat = A := List.take_of_length_le (by omega)
        rw [h1, h2, if_pos ⟨hk, by omega⟩]
      · have h1 : (A ++ [x]).take m.toNat = A.take m.toNat := List.take_append_of_le_length (by omega)
        rw [h1, if_neg]
        rintro ⟨_, h⟩
        rw [List.length_take] at h; omega
    · rw [if_neg (by omega), List.drop_of_length_le (by rw [List.length_append, List.length_take]; simp; omega), List.drop_of_length_le (by rw [List.length_take]; omega)]
def pickF (c n : Int) : Int := if c < 0 then (-(c + 1)).tmod n else c.tmod n
theorem pickF_lt {c n : Int} (h : 0 < n) : 0 ≤ pickF c n ∧ pickF c n < n := by
  unfold pickF
  split
  · have h1 : 0 ≤ -(c + 1) := by omega
    exact ⟨Int.tmod_nonneg _ h1, Int.tmod_lt_of_pos _ h⟩
  · have h1 : 0 ≤ c := by omega
    exact ⟨Int.tmod_nonneg _ h1, Int.tmod_lt_of_pos _ h⟩
def sameE (a b : D) : Bool := (ix a == ix b) && (tm a == tm b) && (I a 2 == I b 2) && (I a 5 == I b 5)
theorem sameE_refl (a : D) : sameE a a = true := by simp [sameE]
def sameL : List D → List D → Bool
  | [], [] => true
  | x :: a, y :: b => sameE x y && sameL a b
  | _, _ => false
theorem sameL_refl : ∀ a : List D, sameL a a = true
  | [] => rfl
  | x :: a => by simp [sameL, sameE_refl, sameL_refl a]
theorem sameL_len : ∀ {a b : List D}, sameL a b = true → a.length = b.length
  | [], [], _ => rfl
  | x :: a, y :: b, h => by simp only [sameL, Bool.and_eq_true] at h; simp [sameL_len h.2]
  | [], _ :: _, h => by simp [sameL] at h
  | _ :: _, [], h => by simp [sameL] at h
def cmd0 (op : D) : D := .agg [op, .int .i64 0, .int .i64 0, .int .i64 0, .int .i64 0, .int .i64 0, .int .i64 0, .list [], .int .i64 0, .bool false, .int .i64 0, .int .i64 0, .int .i64 0, .bool false, .bool false, .int .i64 0, .int .i64 0, .int .i64 0, .list [], .int .i64 0, .int .i64 0, .int .i64 0, .list [], .list [], .bool false, .list [], .list []]
def stepS (i t : Int) (l : List D) (x : D) : Int × Int × List D :=
  if pickF (I x 0) 6 = 0 then (i, t, putL i t l (I x 2) (cmd0 (x.toL.getD 3 .top)))
  else if pickF (I x 0) 6 = 1 then (i, t, (accF i t l (I x 1) (I x 2) (x.toL.getD 4 .top).toL).2)
  else if pickF (I x 0) 6 = 2 then compS i t l (I x 1)
  else (i, t, l)
theorem termF_in {i t : Int} {l : List D} {k : Int} (h1 : i ≤ k) (h2 : k ≤ i + l.length) : (termF i t l k).2 = 0 := by
  unfold termF
  rw [if_neg (by omega)]
  split
  · rfl
  · have : (k - i - 1).toNat < l.length := by omega
    rw [List.getElem?_eq_getElem this]
theorem putL_may {i t : Int} {l : List D} {m : Int} {c : D} (h : mayB i t l = true) : mayB i t (putL i t l m c) = true ∧ (putL i t l m c).length ≤ l.length + 1 := by
  obtain ⟨hk, hc⟩ := mayB_iff.1 h
  unfold putL
  split
  · rename_i hp
    unfold putC at hp
    split at hp
    · simp at hp
    · split at hp
      · simp at hp
      · refine ⟨mayB_iff.2 ⟨hk, ?_⟩, by simp⟩
        rw [chB_append]
        refine ⟨hc, chB_cons.2 ⟨rfl, ?_, ?_, ?_, rfl⟩⟩
        · show lastT t l ≤ m; omega
        · show i + l.length + 1 ≤ MX; omega
        · show m ≤ MX; omega
  · exact ⟨h, by omega⟩
theorem compS_may {i t : Int} {l : List D} {k : Int} (h : mayB i t l = true) : mayB (compS i t l k).1 (compS i t l k).2.1 (compS i t l k).2.2 = true ∧ (compS i t l k).2.2.length ≤ l.length := by
  obtain ⟨⟨k1, k2, k3, k4⟩, hc⟩ := mayB_iff.1 h
  have hln := ch_len k2 hc
  unfold compS
  split
  · exact ⟨h, Nat.le_refl _⟩
  · rename_i hk
    obtain ⟨q1, q2, q3⟩ := termF_ok (termF_in (i := i) (t := t) (l := l) (k := k) (by omega) (by omega))
    refine ⟨mayB_iff.2 ⟨⟨by omega, by omega, ?_, ?_⟩, ?_⟩, by simp⟩
    · show 0 ≤ (termF i t l k).1
      rw [q3]; have := lastT_ge (ch_take (k - i).toNat hc); omega
    · show (termF i t l k).1 ≤ MX
      rw [q3]; exact lastT_le k4 (ch_take _ hc)
    · show chB k (termF i t l k).1 (l.drop (k - i).toNat) = true
      rw [q3]
      have := ch_drop (k - i).toNat (by omega) hc
      rwa [show i + (((k - i).toNat : Nat) : Int) = k by omega] at this
theorem accF_may {i t : Int} {l : List D} {pi pt : Int} {es : List D} (h : mayB i t l = true) : mayB i t (accF i t l pi pt es).2 = true ∧ (accF i t l pi pt es).2.length ≤ l.length + es.length := by
  obtain ⟨hk, hc⟩ := mayB_iff.1 h
  unfold accF
  split
  · rename_i hA
    simp only [accOk, Bool.and_eq_true, beq_iff_eq] at hA
    obtain ⟨⟨h1, h2⟩, h3⟩ := hA
    obtain ⟨q1, q2, q3⟩ := termF_ok h2
    obtain ⟨_, hce⟩ := mayB_iff.1 h1
    have := accL_ch hc (es := es) (n := (pi - i).toNat) (by omega) (by rw [← q3, h3, show i + (((pi - i).toNat : Nat) : Int) = pi by omega]; exact hce)
    exact ⟨mayB_iff.2 ⟨hk, this.1⟩, this.2.1⟩
  · exact ⟨h, by simp⟩
theorem stepS_may {i t : Int} {l : List D} {x : D} (h : mayB i t l = true) : mayB (stepS i t l x).1 (stepS i t l x).2.1 (stepS i t l x).2.2 = true ∧ (stepS i t l x).2.2.length ≤ l.length + 1 + (x.toL.getD 4 .top).toL.length := by
  unfold stepS
  split
  · obtain ⟨h1, h2⟩ := putL_may (m := I x 2) (c := cmd0 (x.toL.getD 3 .top)) h; exact ⟨h1, by show (putL _ _ _ _ _).length ≤ _; omega⟩
  · split
    · obtain ⟨h1, h2⟩ := accF_may (pi := I x 1) (pt := I x 2) (es := (x.toL.getD 4 .top).toL) h; exact ⟨h1, by show (accF _ _ _ _ _ _).2.length ≤ _; omega⟩
    · split
      · obtain ⟨h1, h2⟩ := compS_may (k := I x 1) h; exact ⟨h1, by omega⟩
      · exact ⟨h, by show l.length ≤ _; omega⟩
/-- Where a log has come to behind some deeds. -/
def Good (d : List D) (n : Nat) (i t : Int) (l : List D) : Prop := mayB i t l = true ∧ l.length ≤ n + wtL (d.take n)
theorem wtL_take {d : List D} {n : Nat} {x : D} (h : d[n]? = some x) : wtL (d.take (n + 1)) = wtL (d.take n) + x.wt := by
  rw [List.take_add_one, h, Option.toList_some, wtL_append]; simp [wtL]
theorem wtL_drop (d : List D) (n : Nat) : wtL (d.take n) + wtL (d.drop n) = wtL d := by
  rw [← wtL_append, List.take_append_drop]
theorem deed_wt {x : D} (h : Has deedT x) : (x.toL.getD 4 .top).toL.length ≤ x.wt := by
  obtain ⟨_, rfl, _, _, rfl, ⟨_, rfl, _⟩, _, _, rfl, ⟨_, rfl, _⟩, _, _, rfl, ⟨_, rfl, _⟩, _, _, rfl, ⟨_, rfl, _⟩, _, _, rfl, ⟨es, rfl, _⟩, rfl⟩ := h
  simp [D.wt, wtL, D.toL]
theorem good_step {d : List D} {n : Nat} {i t : Int} {l : List D} {x : D} (h : Good d n i t l) (hx : d[n]? = some x) (ht : Has deedT x) (hw : wtL [.list d] ≤ 1048576) :
    Good d (n + 1) (stepS i t l x).1 (stepS i t l x).2.1 (stepS i t l x).2.2 ∧ l.length < 4294967296 ∧ (x.toL.getD 4 .top).toL.length < 4294967296 := by
  obtain ⟨h1, h2⟩ := h
  obtain ⟨h3, h4⟩ := stepS_may (x := x) h1
  have h5 := deed_wt ht
  have h6 := wtL_take hx
  have h7 := wtL_drop d (n + 1)
  have h8 := lt_some hx
  simp only [wtL, D.wt] at hw
  exact ⟨⟨h3, by omega⟩, by omega, by omega⟩
theorem good_len {d : List D} {n : Nat} {i t : Int} {l : List D} (h : Good d n i t l) (hn : n ≤ d.length) (hw : wtL [.list d] ≤ 1048576) : l.length ≤ 1048576 := by
  obtain ⟨_, h2⟩ := h
  have h7 := wtL_drop d n
  simp only [wtL, D.wt] at hw
  omega
theorem slice_all {i m : Int} {l : List D} (h : (l.length : Int) ≤ m) (hm : 1 ≤ m) : sliceF i l (i + 1) m = l := by
  unfold sliceF; rw [if_neg (by omega), show (i + 1 - i - 1).toNat = 0 by omega, List.drop_zero, List.take_of_length_le (by omega)]
theorem slice_from {i m : Int} {l : List D} {k : Int} (h : (l.length : Int) ≤ m) (hm : 1 ≤ m) (hk : i ≤ k) : sliceF i l (k + 1) m = l.drop (k - i).toNat := by
  unfold sliceF; rw [if_neg (by omega), show (k + 1 - i - 1).toNat = (k - i).toNat by omega, List.take_of_length_le (by rw [List.length_drop]; omega)]
theorem pair_wt {d : List D} {c : Int} : wtL [.list d, .int .i64 c] = wtL [.list d] := by simp [wtL, D.wt]
theorem termF_pos {l : List D} {k : Int} (hk : 0 < k) : termF 0 0 l k = match l[(k - 1).toNat]? with | some x => (tm x, 0) | none => (0, 3) := by
  unfold termF; rw [if_neg (by omega), if_neg (by omega), show k - 0 - 1 = k - 1 by omega]
/-- A log and another that is alike up to p, and of odd terms from there on. -/
def AL (la lb : List D) (p : Nat) : Prop := p ≤ la.length ∧ ∃ s, lb = la.take p ++ s ∧ ∀ x ∈ s, tm x % 2 = 1
theorem AL.lt {la lb : List D} {p : Nat} (h : AL la lb p) {k : Nat} (hk : k < p) : lb[k]? = la[k]? := by
  obtain ⟨h1, s, rfl, _⟩ := h
  rw [List.getElem?_append_left (by rw [List.length_take]; omega), List.getElem?_take_of_lt hk]
theorem AL.ge {la lb : List D} {p : Nat} (h : AL la lb p) {k : Nat} (hk : p ≤ k) {y : D} (hy : lb[k]? = some y) : tm y % 2 = 1 := by
  obtain ⟨h1, s, rfl, h2⟩ := h
  rw [List.getElem?_append_right (by rw [List.length_take]; omega)] at hy
  exact h2 y (List.mem_of_getElem? hy)
theorem AL.take {la lb : List D} {p : Nat} (h : AL la lb p) {k : Nat} (hk : k ≤ p) : lb.take k = la.take k := by
  obtain ⟨h1, s, rfl, _⟩ := h
  rw [List.take_append_of_le_length (by rw [List.length_take]; omega), List.take_take, Nat.min_eq_left hk]
theorem AL.acc {la lb : List D} {p : Nat} (h : AL la lb p) (ha : chB 0 0 la = true) (he : ∀ x ∈ la, tm x % 2 = 0) : ∀ (m f : Nat), f ≤ p → (accL 0 0 lb ((la.drop f).take m)).2 = lb ∨ ∃ q, q ≤ la.length ∧ (accL 0 0 lb ((la.drop f).take m)).2 = la.take q
  | 0, f, _ => .inl (by simp [accL])
  | m + 1, f, hf => by
    rcases hx : la[f]? with _ | x
    · rw [List.drop_of_length_le (ge_none hx)]; exact .inl (by simp [accL])
    · have hxi := ch_get ha hx
      have hix : ix x = f + 1 := by omega
      have hd : (la.drop f).take (m + 1) = x :: (la.drop (f + 1)).take m := by rw [drop_some hx, List.take_succ_cons]
      by_cases hh : hasE 0 0 lb x = true
      · have hf' : f + 1 ≤ p := by
          rcases Nat.lt_or_ge f p with h' | h'
          · exact h'
          · exfalso
            simp only [hasE, Bool.and_eq_true, beq_iff_eq] at hh
            rw [hix, termF_pos (by omega), show ((f : Int) + 1 - 1).toNat = f by omega] at hh
            rcases hy : lb[f]? with _ | y
            · simp [hy] at hh
            · simp only [hy] at hh
              have h1 := h.ge h' hy
              have h2 := he x (List.mem_of_getElem? hx)
              omega
        have ih := AL.acc h ha he m (f + 1) hf'
        rw [hd]
        unfold accL; rw [if_pos hh]; exact ih
      · refine .inr ⟨f + min (m + 1) (la.length - f), ?_, ?_⟩
        · have := lt_some hx; omega
        · have hlt := lt_some hx
          rw [hd]
          unfold accL; rw [if_neg hh, hix, show ((f : Int) + 1 - 0 - 1).toNat = f by omega, ← hd, h.take hf]
          show la.take f ++ (la.drop f).take (m + 1) = _
          rw [← List.take_add]
          by_cases hh : m + 1 ≤ la.length - f
          · rw [Nat.min_eq_left hh]
          · rw [Nat.min_eq_right (by omega), List.take_of_length_le (by omega), List.take_of_length_le (by omega)]
theorem AL.step {la lb : List D} {p : Nat} (h : AL la lb p) (ha : chB 0 0 la = true) (he : ∀ x ∈ la, tm x % 2 = 0) {f m : Int} (hf0 : 0 ≤ f) (hfl : f ≤ la.length) :
    ∃ p', AL la (accF 0 0 lb f (termF 0 0 la f).1 (sliceF 0 la (f + 1) m)).2 p' ∧ ((accF 0 0 lb f (termF 0 0 la f).1 (sliceF 0 la (f + 1) m)).2.length ≤ max lb.length la.length) := by
  unfold accF
  split
  · rename_i hA
    simp only [accOk, Bool.and_eq_true, beq_iff_eq] at hA
    obtain ⟨⟨_, h2⟩, h3⟩ := hA
    have hfp : f.toNat ≤ p := by
      rcases Nat.lt_or_ge p f.toNat with h' | h'
      · exfalso
        rw [termF_pos (by omega)] at h2 h3
        rw [termF_pos (by omega)] at h3
        rcases hy : lb[(f - 1).toNat]? with _ | y
        · rw [hy] at h2; exact absurd h2 (by decide)
        · rcases hx : la[(f - 1).toNat]? with _ | x
          · have := ge_none hx; omega
          · simp only [hy, hx] at h3
            have h1 := h.ge (by omega) hy
            have h2 := he x (List.mem_of_getElem? hx)
            omega
      · exact h'
    have hs : sliceF 0 la (f + 1) m = (la.drop f.toNat).take m.toNat := by
      unfold sliceF
      split
      · rw [show m.toNat = 0 by omega]; simp
      · rw [show (f + 1 - 0 - 1).toNat = f.toNat by omega]
    rw [hs]
    rcases h.acc ha he m.toNat f.toNat hfp with h1 | ⟨q, hq, h1⟩
    · rw [h1]; exact ⟨p, h, by omega⟩
    · rw [h1]; exact ⟨q, ⟨hq, [], by simp, by simp⟩, by rw [List.length_take]; omega⟩
  · exact ⟨p, h, by show lb.length ≤ _; omega⟩
theorem slice_one {l : List D} {k : Int} (hk : 0 < k) : sliceF 0 l k 1 = match l[(k - 1).toNat]? with | some x => [x] | none => [] := by
  unfold sliceF; rw [if_neg (by omega), show k - 0 - 1 = k - 1 by omega]
  rcases hx : l[(k - 1).toNat]? with _ | x
  · rw [List.drop_of_length_le (ge_none hx)]; rfl
  · rw [drop_some hx]; rfl
theorem putL_tm {l : List D} {m : Int} {c : D} {r : Int} (hm : m % 2 = r) (h : ∀ x ∈ l, tm x % 2 = r) : ∀ x ∈ putL 0 0 l m c, tm x % 2 = r := by
  unfold putL
  split
  · intro x hx
    rcases List.mem_append.1 hx with hx | hx
    · exact h x hx
    · rw [List.mem_singleton] at hx; subst hx; exact hm
  · exact h
def newOk (i t : Int) : Bool := okB i t && (decide (i = 0) == decide (t = 0))
theorem newOk_iff {i t : Int} : newOk i t = true ↔ okB i t = true ∧ (i = 0 ↔ t = 0) := by simp [newOk]
theorem vh_stuck {Φ : Nat → List D → D} {Pre : Nat → List D → Prop} {R : D → Prop} {ρ : Nat → D} {stk : List (List D → Prop)} {w : Nat} : (VC.stuck w).holds Φ Pre R ρ stk = False := rfl

/-- What each function gives. -/
def phi (f : Nat) (ds : List D) : D :=
  let a := ds.getD 0 .top; let b := ds.getD 1 .top; let c := ds.getD 2 .top; let d := ds.getD 3 .top
  match f with
  | 23 => .bool (inR a.toI b.toI c.toI)
  | 9 => .tup [.tup [], stD a.toI b.toI []]
  | 21 => .tup [.tup [a, b], .agg [a, b, c]]
  | 12 => .tup [.tup [.int .i64 (a.toI + c.toL.length), .int .i64 (lastT b.toI c.toL)], (stD (ds.getD 0 .top).toI (ds.getD 1 .top).toI (ds.getD 2 .top).toL)]
  | 13 => .tup [.tup [.int .i64 (termF (ds.getD 1 .top).toI (ds.getD 2 .top).toI (ds.getD 3 .top).toL a.toI).1, .int .i64 (termF (ds.getD 1 .top).toI (ds.getD 2 .top).toI (ds.getD 3 .top).toL a.toI).2], (stD (ds.getD 1 .top).toI (ds.getD 2 .top).toI (ds.getD 3 .top).toL)]
  | 15 => .tup [.list (sliceF (ds.getD 2 .top).toI (ds.getD 4 .top).toL a.toI b.toI), (stD (ds.getD 2 .top).toI (ds.getD 3 .top).toI (ds.getD 4 .top).toL)]
  | 24 => .bool (mayB a.toI b.toI c.toL)
  | 10 => .tup [.tup [putX (ds.getD 2 .top).toI (ds.getD 3 .top).toI (ds.getD 4 .top).toL a.toI b, .int .i64 (putC (ds.getD 2 .top).toI (ds.getD 3 .top).toI (ds.getD 4 .top).toL a.toI)], stD (ds.getD 2 .top).toI (ds.getD 3 .top).toI (putL (ds.getD 2 .top).toI (ds.getD 3 .top).toI (ds.getD 4 .top).toL a.toI b)]
  | 26 => .tup [.bool (newerF (ds.getD 2 .top).toI (ds.getD 3 .top).toI (ds.getD 4 .top).toL a.toI b.toI), (stD (ds.getD 2 .top).toI (ds.getD 3 .top).toI (ds.getD 4 .top).toL)]
  | 22 => .tup [.int .i64 (compC (ds.getD 1 .top).toI (ds.getD 3 .top).toL a.toI), stD (compS (ds.getD 1 .top).toI (ds.getD 2 .top).toI (ds.getD 3 .top).toL a.toI).1 (compS (ds.getD 1 .top).toI (ds.getD 2 .top).toI (ds.getD 3 .top).toL a.toI).2.1 (compS (ds.getD 1 .top).toI (ds.getD 2 .top).toI (ds.getD 3 .top).toL a.toI).2.2]
  | 14 => .tup [.tup [.int .i64 (accF (ds.getD 3 .top).toI (ds.getD 4 .top).toI (ds.getD 5 .top).toL a.toI b.toI c.toL).1, .bool (accOk (ds.getD 3 .top).toI (ds.getD 4 .top).toI (ds.getD 5 .top).toL a.toI b.toI c.toL)], stD (ds.getD 3 .top).toI (ds.getD 4 .top).toI (accF (ds.getD 3 .top).toI (ds.getD 4 .top).toI (ds.getD 5 .top).toL a.toI b.toI c.toL).2]
  | 18 => .tup [.tup [], stD a.toI b.toI []]
  | 33 => .tup [.tup [.int .i64 (a.toI + c.toL.length), .int .i64 (lastT b.toI c.toL)], (stD (ds.getD 0 .top).toI (ds.getD 1 .top).toI (ds.getD 2 .top).toL)]
  | 30 => .tup [.tup [.int .i64 (termF (ds.getD 1 .top).toI (ds.getD 2 .top).toI (ds.getD 3 .top).toL a.toI).1, .int .i64 (termF (ds.getD 1 .top).toI (ds.getD 2 .top).toI (ds.getD 3 .top).toL a.toI).2], (stD (ds.getD 1 .top).toI (ds.getD 2 .top).toI (ds.getD 3 .top).toL)]
  | 31 => .tup [.list (sliceF (ds.getD 2 .top).toI (ds.getD 4 .top).toL a.toI b.toI), (stD (ds.getD 2 .top).toI (ds.getD 3 .top).toI (ds.getD 4 .top).toL)]
  | 34 => .bool (mayB a.toI b.toI c.toL)
  | 28 => .tup [.tup [.int .i64 (accF (ds.getD 3 .top).toI (ds.getD 4 .top).toI (ds.getD 5 .top).toL a.toI b.toI c.toL).1, .bool (accOk (ds.getD 3 .top).toI (ds.getD 4 .top).toI (ds.getD 5 .top).toL a.toI b.toI c.toL)], stD (ds.getD 3 .top).toI (ds.getD 4 .top).toI (accF (ds.getD 3 .top).toI (ds.getD 4 .top).toI (ds.getD 5 .top).toL a.toI b.toI c.toL).2]
  | 27 => .tup [.tup [putX (ds.getD 2 .top).toI (ds.getD 3 .top).toI (ds.getD 4 .top).toL a.toI b, .int .i64 (putC (ds.getD 2 .top).toI (ds.getD 3 .top).toI (ds.getD 4 .top).toL a.toI)], stD (ds.getD 2 .top).toI (ds.getD 3 .top).toI (putL (ds.getD 2 .top).toI (ds.getD 3 .top).toI (ds.getD 4 .top).toL a.toI b)]
  | 32 => .tup [.bool (newerF (ds.getD 2 .top).toI (ds.getD 3 .top).toI (ds.getD 4 .top).toL a.toI b.toI), (stD (ds.getD 2 .top).toI (ds.getD 3 .top).toI (ds.getD 4 .top).toL)]
  | 29 => .tup [.int .i64 (compC (ds.getD 1 .top).toI (ds.getD 3 .top).toL a.toI), stD (compS (ds.getD 1 .top).toI (ds.getD 2 .top).toI (ds.getD 3 .top).toL a.toI).1 (compS (ds.getD 1 .top).toI (ds.getD 2 .top).toI (ds.getD 3 .top).toL a.toI).2.1 (compS (ds.getD 1 .top).toI (ds.getD 2 .top).toI (ds.getD 3 .top).toL a.toI).2.2]
  | 11 => .int .i64 (pickF a.toI b.toI)
  | 25 => .bool (sameE a b)
  | 16 => .bool (sameL a.toL b.toL)
  | 19 => .tup [.bool true, (stD (stepS (ds.getD 1 .top).toI (ds.getD 2 .top).toI (ds.getD 3 .top).toL a).1 (stepS (ds.getD 1 .top).toI (ds.getD 2 .top).toI (ds.getD 3 .top).toL a).2.1 (stepS (ds.getD 1 .top).toI (ds.getD 2 .top).toI (ds.getD 3 .top).toL a).2.2), (stD (stepS (ds.getD 1 .top).toI (ds.getD 2 .top).toI (ds.getD 3 .top).toL a).1 (stepS (ds.getD 1 .top).toI (ds.getD 2 .top).toI (ds.getD 3 .top).toL a).2.1 (stepS (ds.getD 1 .top).toI (ds.getD 2 .top).toI (ds.getD 3 .top).toL a).2.2)]
  | 17 => .bool true
  | 7 => .bool true
  | 5 => .bool true
  | 8 => .bool true
  | 3 => .bool true
  | 20 => .tup [.bool true, (stD (ds.getD 0 .top).toI (ds.getD 1 .top).toI (ds.getD 2 .top).toL), (stD (ds.getD 0 .top).toI (ds.getD 1 .top).toI (ds.getD 2 .top).toL)]
  | 4 => .bool true
  | 6 => .bool true
  | _ => .bool true
def pre (f : Nat) (ds : List D) : Prop :=
  let a := ds.getD 0 .top; let b := ds.getD 1 .top; let c := ds.getD 2 .top; let d := ds.getD 3 .top
  match f with
  | 9 => okB a.toI b.toI = true ∧ (a.toI = 0 ↔ b.toI = 0)
  | 12 => mayB (ds.getD 0 .top).toI (ds.getD 1 .top).toI (ds.getD 2 .top).toL = true
  | 13 => mayB (ds.getD 1 .top).toI (ds.getD 2 .top).toI (ds.getD 3 .top).toL = true
  | 15 => okB (ds.getD 2 .top).toI (ds.getD 3 .top).toI = true
  | 10 => mayB (ds.getD 2 .top).toI (ds.getD 3 .top).toI (ds.getD 4 .top).toL = true ∧ (ds.getD 4 .top).toL.length < 4294967296
  | 26 => mayB (ds.getD 2 .top).toI (ds.getD 3 .top).toI (ds.getD 4 .top).toL = true
  | 22 => mayB (ds.getD 1 .top).toI (ds.getD 2 .top).toI (ds.getD 3 .top).toL = true
  | 14 => mayB (ds.getD 3 .top).toI (ds.getD 4 .top).toI (ds.getD 5 .top).toL = true ∧ (ds.getD 5 .top).toL.length < 4294967296 ∧ (ds.getD 2 .top).toL.length < 4294967296
  | 18 => okB a.toI b.toI = true ∧ (a.toI = 0 ↔ b.toI = 0)
  | 33 => mayB (ds.getD 0 .top).toI (ds.getD 1 .top).toI (ds.getD 2 .top).toL = true
  | 30 => mayB (ds.getD 1 .top).toI (ds.getD 2 .top).toI (ds.getD 3 .top).toL = true
  | 31 => mayB (ds.getD 2 .top).toI (ds.getD 3 .top).toI (ds.getD 4 .top).toL = true
  | 28 => mayB (ds.getD 3 .top).toI (ds.getD 4 .top).toI (ds.getD 5 .top).toL = true ∧ (ds.getD 5 .top).toL.length < 4294967296 ∧ (ds.getD 2 .top).toL.length < 4294967296
  | 27 => mayB (ds.getD 2 .top).toI (ds.getD 3 .top).toI (ds.getD 4 .top).toL = true ∧ (ds.getD 4 .top).toL.length < 4294967296
  | 32 => mayB (ds.getD 2 .top).toI (ds.getD 3 .top).toI (ds.getD 4 .top).toL = true
  | 29 => mayB (ds.getD 1 .top).toI (ds.getD 2 .top).toI (ds.getD 3 .top).toL = true
  | 11 => 0 < b.toI
  | 19 => mayB (ds.getD 1 .top).toI (ds.getD 2 .top).toI (ds.getD 3 .top).toL = true ∧ (ds.getD 4 .top).toI = b.toI ∧ (ds.getD 5 .top).toI = c.toI ∧ (ds.getD 6 .top).toL = d.toL ∧ (ds.getD 3 .top).toL.length < 4294967296 ∧ (D.toL (a.toL.getD 4 .top)).length < 4294967296
  | 7 => wtL ds ≤ 1048576
  | 5 => wtL ds ≤ 1048576
  | 8 => wtL ds ≤ 1048576
  | 3 => wtL ds ≤ 1048576
  | 20 => mayB (ds.getD 0 .top).toI (ds.getD 1 .top).toI (ds.getD 2 .top).toL = true ∧ (ds.getD 3 .top).toI = a.toI ∧ (ds.getD 4 .top).toI = b.toI ∧ (ds.getD 5 .top).toL = c.toL ∧ c.toL.length ≤ 1048576
  | 4 => wtL ds ≤ 1048576 ∧ newOk a.toI b.toI = true
  | 6 => wtL ds ≤ 1048576
  | _ => True
theorem mix : Try.prog.follows .mixedOrders = true := by kernel_rfl
end Go.Proofs.Ytgljfheohnlpfaa
