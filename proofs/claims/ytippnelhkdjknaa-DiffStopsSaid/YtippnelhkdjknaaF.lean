/-
  What each function of this seat computes.
-/
import Derived.Test.YtippnelhkdjknaaV
import Derived.KernelRfl
set_option linter.unusedSimpArgs false
set_option linter.unusedVariables false
namespace Go.Proofs.Ytippnelhkdjknaa
open Go Go.Eng Go.Proofs


def within (n lo hi : Int) : Bool := decide (lo ≤ n) && decide (n ≤ hi)
def resOk (c m most : Int) : Bool := within c 0 most && within m 0 most
def M : Int := 1152921504606846976
def sumOk (x y : ARes) : Bool := resOk x.CPU x.Mem M && resOk y.CPU y.Mem M && resOk (x.CPU + y.CPU) (x.Mem + y.Mem) M
def addR (x y : ARes) : ARes × Bool := if sumOk x y then (⟨x.CPU + y.CPU, x.Mem + y.Mem⟩, true) else (⟨0, 0⟩, false)
def addD (x y : ARes) : D := .tup [(addR x y).1.enc, .bool (addR x y).2]
def sum1 (a b : Int) : D := if within a 0 M && within b 0 M && decide (a + b ≤ M) then .tup [.int .i64 (a + b), .bool true] else .tup [.int .i64 0, .bool false]
theorem resOk_le {x y m : Int} (h : resOk x y m = true) : 0 ≤ x ∧ x ≤ m ∧ 0 ≤ y ∧ y ≤ m := by
  simp only [resOk, within, Bool.and_eq_true, decide_eq_true_eq] at h; omega
theorem sumOk_iff {x y : ARes} : sumOk x y = true ↔ (0 ≤ x.CPU ∧ 0 ≤ x.Mem ∧ 0 ≤ y.CPU ∧ 0 ≤ y.Mem ∧ x.CPU + y.CPU ≤ M ∧ x.Mem + y.Mem ≤ M) := by
  have hM : M = 1152921504606846976 := rfl
  simp only [sumOk, resOk, within, Bool.and_eq_true, decide_eq_true_eq]
  constructor
  · rintro ⟨⟨⟨⟨_, _⟩, _, _⟩, ⟨_, _⟩, _, _⟩, ⟨_, _⟩, _, _⟩
    exact ⟨by omega, by omega, by omega, by omega, by omega, by omega⟩
  · rintro ⟨_, _, _, _, _, _⟩
    exact ⟨⟨⟨⟨by omega, by omega⟩, by omega, by omega⟩, ⟨by omega, by omega⟩, by omega, by omega⟩, ⟨by omega, by omega⟩, by omega, by omega⟩

def fnId : D → Nat
  | .fn f _ => f
  | _ => 0
def over (a : AAlc) : Bool := decide (3 ≤ a.State)
def fitsR (u a m : ARes) : Bool := (addR u a).2 && decide ((addR u a).1.CPU ≤ m.CPU) && decide ((addR u a).1.Mem ≤ m.Mem)
/-- What is used on a node: from a sum on. -/
def useF (node : Int) : List AAlc → ARes → ARes
  | [], x => x
  | a :: l, x => if a.Node != node || over a then useF node l x
      else if (addR x ⟨a.CPU, a.Mem⟩).2 then useF node l (addR x ⟨a.CPU, a.Mem⟩).1 else ⟨M, M⟩
def used (s : AStore) (node : Int) : ARes := useF node s.Allocs ⟨0, 0⟩
def nodeI (s : AStore) (id : Int) : Int := findF (fun x => x.ID == id) s.Nodes 0
def jobI (s : AStore) (id : Int) : Int := findF (fun x => x.ID == id) s.Jobs 0
def allocI (s : AStore) (id : Int) : Int := findF (fun x => x.ID == id) s.Allocs 0
def evalI (s : AStore) (id : Int) : Int := findF (fun x => x.Job == id) s.Evals 0
def deployI (s : AStore) (id : Int) : Int := findF (fun x => x.Job == id) s.Deploys 0
def stableI (s : AStore) (id : Int) : Int := findF (fun x => x.ID == id) s.Stable 0
def isSlot (j g k : Int) (a : AAlc) : Bool := (a.Job == j) && (a.Group == g) && (a.Index == k) && !over a
def slotI (s : AStore) (j g k : Int) : Int := findF (isSlot j g k) s.Allocs 0

/-- A loop that looks for the first: its rounds. -/
def FJ {α : Type} (p : α → Bool) (l : List α) (k : Nat) (xs : List D) : Prop := ∃ n : Nat, I (.list xs) k = n ∧ n ≤ l.length ∧ findF p (l.drop n) n = findF p l 0
def FM {α : Type} (l : List α) (k : Nat) (xs : List D) : Nat := l.length - (I (.list xs) k).toNat

theorem FJ.start {α : Type} (p : α → Bool) (l : List α) {k : Nat} {xs : List D} (h : I (.list xs) k = 0) : FJ p l k xs := ⟨0, h, Nat.zero_le _, rfl⟩
theorem FJ.next {α : Type} {p : α → Bool} {l : List α} {k n : Nat} {x : α} {xs xs' : List D} (hx : l[n]? = some x) (hf : findF p (l.drop n) n = findF p l 0) (hp : p x = false) (h0 : I (.list xs) k = n) (h1 : I (.list xs') k = (n : Int) + 1) :
    FJ p l k xs' ∧ FM l k xs' < FM l k xs := by
  obtain ⟨hlt, hge⟩ := List.getElem?_eq_some_iff.1 hx
  refine ⟨⟨n + 1, h1, hlt, ?_⟩, ?_⟩
  · rw [drop_some hx, findF, hp] at hf
    simpa using hf
  · simp only [FM, h0, h1]; omega
theorem FJ.hit {α : Type} {p : α → Bool} {l : List α} {n : Nat} {x : α} (hx : l[n]? = some x) (hf : findF p (l.drop n) n = findF p l 0) (hp : p x = true) : findF p l 0 = n := by
  rw [drop_some hx, findF, hp] at hf
  simpa using hf.symm
theorem FJ.done {α : Type} {p : α → Bool} {l : List α} {n : Nat} (hx : l[n]? = none) (hf : findF p (l.drop n) n = findF p l 0) : findF p l 0 = -1 := by
  rw [drop_none hx, findF] at hf
  exact hf.symm

def UJ (node : Int) (l : List AAlc) (xs : List D) : Prop := ∃ n : Nat, I (.list xs) 0 = n ∧ n ≤ l.length ∧ useF node (l.drop n) ⟨I (.list xs) 1, I (.list xs) 2⟩ = useF node l ⟨0, 0⟩

theorem ARes.eta (a : ARes) : (⟨a.CPU, a.Mem⟩ : ARes) = a := rfl
def cntG (g : AGrp) : Int := max 0 (min g.Count 4)
theorem findF_find {α : Type} (p : α → Bool) : ∀ (l : List α) (i : Int), (findF p l i = -1 ∧ l.find? p = none) ∨ ∃ (n : Nat) (x : α), findF p l i = i + n ∧ l[n]? = some x ∧ l.find? p = some x
  | [], i => .inl ⟨rfl, rfl⟩
  | x :: r, i => by
    unfold findF
    cases hp : p x with
    | true => exact .inr ⟨0, x, by simp, rfl, by simp [hp]⟩
    | false =>
      rcases findF_find p r (i + 1) with ⟨h1, h2⟩ | ⟨n, y, h1, h2, h3⟩
      · exact .inl ⟨by simpa using h1, by simp [hp, h2]⟩
      · exact .inr ⟨n + 1, y, by simp [h1]; omega, by simpa using h2, by simp [hp, h3]⟩
theorem find0 {α : Type} (p : α → Bool) (l : List α) : (findF p l 0 = -1 ∧ l.find? p = none) ∨ ∃ (n : Nat) (x : α), findF p l 0 = n ∧ l[n]? = some x ∧ l.find? p = some x := by
  rcases findF_find p l 0 with h | ⟨n, x, h1, h2⟩
  · exact .inl h
  · exact .inr ⟨n, x, by rw [h1]; simp, h2⟩
def intsOf (d : D) : List Int := d.toL.map D.toI
theorem intsOf_list (l : List Int) : intsOf (.list (l.map (D.int .i64))) = l := by simp [intsOf, D.toL, List.map_map, Function.comp_def, D.toI]
theorem intsOf_ints (l : List Int) : intsOf (ints l) = l := intsOf_list l
theorem intsD {d : D} (h : Has (.list (.int .i64)) d) : ∃ l : List Int, d = .list (l.map (D.int .i64)) ∧ l.length * 8 ≤ 140737488355328 ∧ ∀ x ∈ l, -9223372036854775808 ≤ x ∧ x ≤ 9223372036854775807 := by
  obtain ⟨l, rfl, hl, hx⟩ := ints_enc h
  exact ⟨l, rfl, hl.2, fun x hxm => in64_iff.1 (hx x hxm)⟩
/-- The nodes that a system job may run on, each once. -/
def nodesF : List ANode → List Int → List Int
  | [], o => o
  | n :: r, o => nodesF r (if n.Up && !n.Drain && !decide (n.ID ∈ o) then o ++ [n.ID] else o)
def rangeI (k : Nat) : List Int := (List.range k).map (fun i : Nat => (i : Int))
/-- A group's. -/
def idxL (s : AStore) (j : AJob) (x : AGrp) : List Int := if j.Kind = 3 then nodesF s.Nodes [] else rangeI (cntG x).toNat
def slotsF (s : AStore) (j : AJob) : List AGrp → Int → List (Int × Int)
  | [], _ => []
  | x :: r, g => (idxL s j x).map (fun i => (g, i)) ++ slotsF s j r (g + 1)
/-- A job's slots. -/
def slotsL (s : AStore) (j : AJob) : List (Int × Int) := if j.Stopped then [] else slotsF s j j.Groups 0
def slotE (p : Int × Int) : D := .agg [.int .i64 p.1, .int .i64 p.2]
def slotD (d : D) : Int × Int := (I d 0, I d 1)
theorem slotD_E (p : Int × Int) : slotD (slotE p) = p := rfl
theorem slotE_toL (p : Int × Int) : (slotE p).toL = [.int .i64 p.1, .int .i64 p.2] := rfl
def isDone (j : AJob) (p : Int × Int) (a : AAlc) : Bool := a.Job == j.ID && a.Version == j.Version && a.Group == p.1 && a.Index == p.2 && a.State == 3
def doneB (s : AStore) (j : AJob) (p : Int × Int) : Bool := j.Kind == 2 && s.Allocs.any (isDone j p)
/-- Does a slot move? -/
def moves1 (s : AStore) (j : AJob) (p : Int × Int) : Bool := match s.Allocs.find? (isSlot j.ID p.1 p.2) with
  | none => true
  | some a => a.Stop || (a.Version == j.Version && a.State != 2)
def movingN (s : AStore) (j : AJob) : Int := ((slotsL s j).countP (moves1 s j) : Int)
def knownS : AStore := ⟨0, 0, [⟨1, 1, 0, 1, [⟨2, 0, 0⟩], 2, false⟩], [], [], [⟨5, 1, 1, 0, 0, 0, 0, 0, 0, false, 2⟩, ⟨6, 1, 1, 0, 1, 0, 0, 0, 0, false, 2⟩], [], [], []⟩
/-- What a store's and a job's slots take. -/
def room13 (s : AStore) (j : AJob) : Prop := (slotsL s j).length * 16 ≤ 140737488355328

theorem slot_cases {d : D} (h : Has slotT d) : ∃ p : Int × Int, d = slotE p ∧ in64 p.1 ∧ in64 p.2 := by
  obtain ⟨_, rfl, _, _, rfl, ⟨x, rfl, hx⟩, _, _, rfl, ⟨y, rfl, hy⟩, rfl⟩ := h
  exact ⟨(x, y), rfl, hx, hy⟩
theorem slot_cells {l : List D} (h : HasL (.ofL slotT.cells) l) : ∃ p : Int × Int, l = (slotE p).toL := by
  obtain ⟨_, _, rfl, ⟨x, rfl, _⟩, _, _, rfl, ⟨y, rfl, _⟩, rfl⟩ := h
  exact ⟨(x, y), rfl⟩
theorem job_cells {l : List D} (h : HasL (.ofL jobT.cells) l) : ∃ j : AJob, l = j.enc.toL ∧ j.Ok := by
  obtain ⟨j, hj, hk⟩ := AJob.cases (d := .agg l) ⟨l, rfl, h⟩
  exact ⟨j, by injection hj, hk⟩
theorem store_cells {l : List D} (h : HasL (.ofL storeT.cells) l) : ∃ s : AStore, l = s.enc.toL ∧ s.Ok := by
  obtain ⟨j, hj, hk⟩ := AStore.cases (d := .agg l) ⟨l, rfl, h⟩
  exact ⟨j, by injection hj, hk⟩
theorem job_ptr (j : AJob) : AJob.dec (.ptr j.enc.toL) = j := AJob.dec_enc j
theorem store_ptr (j : AStore) : AStore.dec (.ptr j.enc.toL) = j := AStore.dec_enc j
theorem slot_ptr (p : Int × Int) : slotD (.ptr (slotE p).toL) = p := rfl
theorem job_agg (j : AJob) : D.agg j.enc.toL = j.enc := rfl
theorem store_agg (j : AStore) : D.agg j.enc.toL = j.enc := rfl
theorem slot_agg (p : Int × Int) : D.agg (slotE p).toL = slotE p := rfl
theorem fn_toL (f : Nat) (l : List D) : (D.fn f l).toL = l := rfl
theorem ints_toL (l : List Int) : (ints l).toL = l.map (D.int .i64) := rfl
theorem snoc_int (l : List Int) (x : Int) : D.list (l.map (D.int .i64) ++ [.int .i64 x]) = ints (l ++ [x]) := by simp [ints, encL]
theorem snoc_slot (l : List (Int × Int)) (g i : Int) : D.list (l.map slotE ++ [.agg [.int .i64 g, .int .i64 i]]) = encL slotE (l ++ [(g, i)]) := by simp [encL, slotE]
theorem rangeI_succ (k : Nat) : rangeI (k + 1) = rangeI k ++ [(k : Int)] := by simp [rangeI, List.range_succ]
theorem rangeI_length (k : Nat) : (rangeI k).length = k := by simp [rangeI]
theorem cntG_le (x : AGrp) : 0 ≤ cntG x ∧ cntG x ≤ 4 := by unfold cntG; omega
theorem nodesF_pre : ∀ (l : List ANode) (o : List Int), ∃ t, nodesF l o = o ++ t
  | [], o => ⟨[], by simp [nodesF]⟩
  | n :: r, o => by
    unfold nodesF
    split
    · obtain ⟨t, ht⟩ := nodesF_pre r (o ++ [n.ID])
      exact ⟨n.ID :: t, by rw [ht]; simp⟩
    · exact nodesF_pre r o
theorem nodesF_length : ∀ (l : List ANode) (o : List Int), (nodesF l o).length ≤ o.length + l.length
  | [], o => by simp [nodesF]
  | n :: r, o => by
    unfold nodesF
    have := nodesF_length r (if n.Up && !n.Drain && !decide (n.ID ∈ o) then o ++ [n.ID] else o)
    split at this
    · rename_i h; rw [if_pos h]; simp at this ⊢; omega
    · rename_i h; rw [if_neg h]; simp at this ⊢; omega
theorem findF_any {α : Type} (p : α → Bool) (l : List α) : decide (0 ≤ findF p l 0) = l.any p := by
  rcases find0 p l with ⟨h1, h2⟩ | ⟨n, x, h1, h2, h3⟩
  · rw [h1]
    have : l.any p = false := by
      rw [List.any_eq_false]; intro x hx
      exact List.find?_eq_none.1 h2 x hx
    rw [this]; rfl
  · rw [h1]
    have hp := List.find?_some h3
    have : l.any p = true := List.any_eq_true.2 ⟨x, List.mem_of_getElem? h2, hp⟩
    rw [this]; simp
theorem cntG_eq (x : AGrp) : (if 0 < (if 4 < x.Count then 4 else x.Count) then (if 4 < x.Count then 4 else x.Count) else 0) = cntG x := by
  unfold cntG
  split <;> split <;> omega
/-- The allocation at a place. -/
def atI (s : AStore) (q : Int) : AAlc := s.Allocs.getD q.toNat default
def slI (s : AStore) (j : AJob) (p : Int × Int) : Int := slotI s j.ID p.1 p.2
def mv1 (s : AStore) (j : AJob) (stops : List Int) (p : Int × Int) : Bool :=
  decide (slI s j p < 0) || decide (slI s j p ∈ stops) || (atI s (slI s j p)).Stop || ((atI s (slI s j p)).Version == j.Version && (atI s (slI s j p)).State != 2)
def mv2 (s : AStore) (j : AJob) (stops : List Int) (p : Int × Int) : Bool :=
  decide (slI s j p < 0) || decide (slI s j p ∈ stops) || (atI s (slI s j p)).Stop || (atI s (slI s j p)).Version == j.Version
def rollF (s : AStore) (j : AJob) : List (Int × Int) → List Int → List Int → Int → List Int
  | [], stop, _, _ => stop
  | p :: r, stop, stops, m => if j.Parallel ≤ m then stop
      else if mv2 s j stops p then rollF s j r stop stops m
      else rollF s j r (stop ++ [(atI s (slI s j p)).ID]) (slI s j p :: stops) (m + 1)
def rollL (s : AStore) (j : AJob) (stop stops : List Int) : List Int := rollF s j (slotsL s j) stop stops ((slotsL s j).countP (mv1 s j stops))
def jcap (j : AJob) : D := .ptr j.enc.toL
def scap (s : AStore) : D := .ptr s.enc.toL
def capF (s : AStore) (j : AJob) : D := .fn 29 [jcap j, scap s]
theorem capF_toL (s : AStore) (j : AJob) : (capF s j).toL = [jcap j, scap s] := rfl
theorem ints_has (l : List Int) (x : Int) : (ints l).toL.any (fun z => z.keq (.int .i64 x)) = decide (x ∈ l) := by
  have hk : ∀ y : Int, (D.int .i64 y).keq (.int .i64 x) = decide (y = x) := fun y => by simp [D.keq, D.cells, D.toI]
  rw [ints_toL, List.any_map, Bool.eq_iff_iff]
  simp only [List.any_eq_true, Function.comp, hk, decide_eq_true_eq]
  exact ⟨fun ⟨y, h1, h2⟩ => h2 ▸ h1, fun h => ⟨x, h, rfl⟩⟩
def roomR (s : AStore) (j : AJob) (a b : List Int) : Prop := a.length + (slotsL s j).length ≤ 17592186044416 ∧ b.length + (slotsL s j).length ≤ 17592186044416
theorem slI_at (s : AStore) (j : AJob) (p : Int × Int) : slI s j p = -1 ∨ ∃ (n : Nat) (a : AAlc), slI s j p = n ∧ s.Allocs[n]? = some a ∧ isSlot j.ID p.1 p.2 a = true ∧ atI s (slI s j p) = a := by
  rcases find0 (isSlot j.ID p.1 p.2) s.Allocs with ⟨h, _⟩ | ⟨n, x, h1, h2, h3⟩
  · exact .inl h
  · have h1' : slI s j p = n := h1
    exact .inr ⟨n, x, h1', h2, List.find?_some h3, by unfold atI; rw [h1']; simp [h2]⟩
theorem slots_get {L : List (Int × Int)} {i : Nat} {x : D} (h : (L.map slotE)[i]? = some x) : ∃ p, L[i]? = some p ∧ x = slotE p := by
  simp only [List.getElem?_map, Option.map_eq_some_iff] at h
  obtain ⟨p, h1, rfl⟩ := h
  exact ⟨p, h1, rfl⟩
theorem slI_fold (s : AStore) (j : AJob) (p : Int × Int) : slotI s j.ID p.1 p.2 = slI s j p := rfl
theorem cons_int (l : List Int) (x : Int) : D.list (D.int .i64 x :: l.map (D.int .i64)) = ints (x :: l) := rfl
theorem countP_take {α : Type} {f : α → Bool} {l : List α} {i : Nat} {x : α} (h : l[i]? = some x) : (l.take (i + 1)).countP f = (l.take i).countP f + if f x then 1 else 0 := by
  rw [List.take_add_one, h, List.countP_append]
  simp [List.countP_cons]
theorem countP_take_le {α : Type} {f : α → Bool} {l : List α} {i : Nat} : (l.take i).countP f ≤ l.length := Nat.le_trans List.countP_le_length (by simp; omega)
theorem ints_len (l : List Int) : (ints l).toL.length = l.length := by simp [ints_toL]
theorem snoc_ints (l : List Int) (x : Int) : D.list ((ints l).toL ++ [.int .i64 x]) = ints (l ++ [x]) := snoc_int l x
theorem cons_ints (l : List Int) (x : Int) : D.list (D.int .i64 x :: (ints l).toL) = ints (x :: l) := rfl
def ndI (s : AStore) (q : Int) : ANode := s.Nodes.getD q.toNat default
def drainB (s : AStore) (node : Int) : Bool := decide (0 ≤ nodeI s node) && (ndI s (nodeI s node)).Drain
def skipB (j : AJob) (a : AAlc) : Bool := a.Job != j.ID || over a || a.Stop
def stopB (s : AStore) (j : AJob) (L : List (Int × Int)) (a : AAlc) : Bool := !decide ((a.Group, a.Index) ∈ L) || drainB s a.Node || (j.Kind != 1 && a.Version != j.Version)
def stopF (s : AStore) (j : AJob) (L : List (Int × Int)) : List AAlc → Int → List Int → List Int → List Int × List Int
  | [], _, st, sp => (st, sp)
  | a :: r, i, st, sp => if skipB j a then stopF s j L r (i + 1) st sp else if stopB s j L a then stopF s j L r (i + 1) (st ++ [a.ID]) (i :: sp) else stopF s j L r (i + 1) st sp
def fillB (s : AStore) (j : AJob) (p : Int × Int) : Bool := decide (slI s j p < 0) && !doneB s j p
def stopsOf (s : AStore) (j : AJob) : List Int × List Int := stopF s j (slotsL s j) s.Allocs 0 [] []
def stopL (s : AStore) (j : AJob) : List Int := if j.Kind = 1 then rollL s j (stopsOf s j).1 (stopsOf s j).2 else (stopsOf s j).1
def fillL (s : AStore) (j : AJob) : List (Int × Int) := (slotsL s j).filter (fillB s j)
/-- What a job wants against what there is. -/
def diffL (s : AStore) (job : Int) : List Int × List (Int × Int) := match s.Jobs.find? (fun x => x.ID == job) with
  | none => ([], [])
  | some j => (stopL s j, fillL s j)
def roomJ (s : AStore) (job : Int) : Prop := ∀ j, s.Jobs.find? (fun x => x.ID == job) = some j → (slotsL s j).length + s.Allocs.length ≤ 8796093022208
def roomD (s : AStore) : Prop := ∀ j ∈ s.Jobs, (slotsL s j).length + s.Allocs.length ≤ 8796093022208
theorem roomD.j {s : AStore} (h : roomD s) (job : Int) : roomJ s job := fun j hj => h j (List.mem_of_find?_eq_some hj)
theorem cons_slotm (l : List (Int × Int)) (p : Int × Int) : D.list (D.agg [.int .i64 p.1, .int .i64 p.2] :: l.map slotE) = encL slotE (p :: l) := rfl
theorem snoc_slotm (l : List (Int × Int)) (p : Int × Int) : D.list (l.map slotE ++ [.agg [.int .i64 p.1, .int .i64 p.2]]) = encL slotE (l ++ [p]) := by simp [encL, slotE]
theorem slots_has (l : List (Int × Int)) (g i : Int) : (l.map slotE).any (fun z => z.keq (.agg [.int .i64 g, .int .i64 i])) = decide ((g, i) ∈ l) := by
  have hk : ∀ y : Int × Int, (slotE y).keq (.agg [.int .i64 g, .int .i64 i]) = decide (y = (g, i)) := fun y => by
    obtain ⟨a, b⟩ := y
    simp [D.keq, slotE, D.cells, D.toI]
  rw [List.any_map, Bool.eq_iff_iff]
  simp only [List.any_eq_true, Function.comp, hk, decide_eq_true_eq]
  exact ⟨fun ⟨y, h1, h2⟩ => h2 ▸ h1, fun h => ⟨_, h, rfl⟩⟩
theorem filter_take {α : Type} {f : α → Bool} {l : List α} {i : Nat} {x : α} (h : l[i]? = some x) : (l.take (i + 1)).filter f = (l.take i).filter f ++ if f x then [x] else [] := by
  rw [List.take_add_one, h, List.filter_append]
  simp [List.filter_cons]
theorem filter_take_le {α : Type} {f : α → Bool} {l : List α} {i : Nat} (h : i ≤ l.length) : ((l.take i).filter f).length ≤ i := Nat.le_trans (List.length_filter_le _ _) (by simp; omega)
theorem nodeI_at (s : AStore) (id : Int) : nodeI s id = -1 ∨ ∃ (n : Nat) (a : ANode), nodeI s id = n ∧ s.Nodes[n]? = some a ∧ ndI s (nodeI s id) = a := by
  rcases find0 (fun x => x.ID == id) s.Nodes with ⟨h, _⟩ | ⟨n, x, h1, h2, _⟩
  · exact .inl h
  · have h1' : nodeI s id = n := h1
    exact .inr ⟨n, x, h1', h2, by unfold ndI; rw [h1']; simp [h2]⟩
def keysOf (L : List (Int × Int)) (i : Nat) : List (Int × Int) := (L.take i).reverse
theorem keysOf_zero (L : List (Int × Int)) : keysOf L 0 = [] := rfl
theorem keysOf_succ {L : List (Int × Int)} {i : Nat} {p : Int × Int} (h : L[i]? = some p) : keysOf L (i + 1) = p :: keysOf L i := by
  unfold keysOf; rw [List.take_add_one, h]; simp
theorem keysOf_len (L : List (Int × Int)) (i : Nat) : (keysOf L i).length ≤ i := by simp [keysOf]; omega
theorem keysOf_mem (L : List (Int × Int)) (p : Int × Int) : p ∈ keysOf L L.length ↔ p ∈ L := by simp [keysOf]

/-- What each function gives. -/
def phi (f : Nat) (ds : List D) : D :=
  let a := ds.getD 0 .top; let b := ds.getD 1 .top; let c := ds.getD 2 .top; let d := ds.getD 3 .top
  match f with
  | 19 => .bool (over (AAlc.dec a))
  | 34 => .bool (isSlot (I b 0) (I c 0) (I d 0) (AAlc.dec a))
  | 33 => .int .i64 (findF (isSlot (I (b.toL.getD 0 .top) 0) (I (b.toL.getD 1 .top) 0) (I (b.toL.getD 2 .top) 0)) (decL AAlc.dec a) 0)
  | 22 => .int .i64 (slotI (AStore.dec a) b.toI c.toI d.toI)
  | 9 => .int .i64 (slotI (AStore.dec a) b.toI c.toI d.toI)
  | 28 => .bool ((AJob.dec a).ID == I b 0)
  | 27 => .int .i64 (findF (fun x => x.ID == I (b.toL.getD 0 .top) 0) (decL AJob.dec a) 0)
  | 17 => .int .i64 (jobI (AStore.dec a) b.toI)
  | 11 => .int .i64 (jobI (AStore.dec a) b.toI)
  | 32 => .bool ((ANode.dec a).ID == I b 0)
  | 31 => .int .i64 (findF (fun x => x.ID == I (b.toL.getD 0 .top) 0) (decL ANode.dec a) 0)
  | 20 => .int .i64 (nodeI (AStore.dec a) b.toI)
  | 13 => .int .i64 (nodeI (AStore.dec a) b.toI)
  | 14 => .int .i64 (allocI (AStore.dec a) b.toI)
  | 39 => .int .i64 (findF (fun y => y == b.toI) (intsOf a) 0)
  | 37 => .bool (decide (b.toI ∈ intsOf a))
  | 26 => a
  | 16 => a
  | 25 => .bool (decide (b.toI ∈ intsOf a))
  | 36 => .bool (isDone (AJob.dec b) (slotD c) (AAlc.dec a))
  | 38 => .int .i64 (findF (isDone (AJob.dec (b.toL.getD 0 .top)) (slotD (b.toL.getD 1 .top))) (decL AAlc.dec a) 0)
  | 35 => .bool ((decL AAlc.dec a).any (isDone (AJob.dec (b.toL.getD 0 .top)) (slotD (b.toL.getD 1 .top))))
  | 23 => .bool (doneB (AStore.dec a) (AJob.dec b) (slotD c))
  | 30 => .list ((idxL (AStore.dec a) (AJob.dec b) ((AJob.dec b).Groups.getD c.toI.toNat ⟨0, 0, 0⟩)).map (D.int .i64))
  | 18 => .fn 29 [.ptr b.toL, .ptr a.toL]
  | 12 => .list ((slotsL (AStore.dec a) (AJob.dec b)).map slotE)
  | 24 => knownS.enc
  | 21 => .list ((rollL (AStore.dec a) (AJob.dec b) (intsOf c) (intsOf d)).map (D.int .i64))
  | 8 => .tup [ints (diffL (AStore.dec a) b.toI).1, encL slotE (diffL (AStore.dec a) b.toI).2]
  | 10 => .bool true
  | 3 => .bool true
  | 5 => .bool true
  | 15 => .int .i64 (movingN (AStore.dec a) (AJob.dec b))
  | 6 => .bool true
  | 7 => .bool true
  | 4 => .bool true
  | 29 => .list ((slotsL (AStore.dec b) (AJob.dec a)).map slotE)
  | _ => .bool true
def pre (f : Nat) (ds : List D) : Prop :=
  let a := ds.getD 0 .top; let b := ds.getD 1 .top; let c := ds.getD 2 .top; let d := ds.getD 3 .top
  match f with
  | 30 => 0 ≤ c.toI ∧ c.toI.toNat < (AJob.dec b).Groups.length
  | 12 => room13 (AStore.dec a) (AJob.dec b)
  | 21 => roomR (AStore.dec a) (AJob.dec b) (intsOf c) (intsOf d)
  | 8 => roomJ (AStore.dec a) b.toI
  | 3 => wtL ds ≤ 1048576
  | 5 => wtL ds ≤ 1048576
  | 15 => room13 (AStore.dec a) (AJob.dec b)
  | 7 => wtL ds ≤ 1048576
  | 4 => wtL ds ≤ 1048576
  | _ => True
theorem mix : Try.prog.follows .mixedOrders = true := by kernel_rfl

def NM (hi : Int) (k : Nat) (xs : List D) : Nat := (hi - I (.list xs) k).toNat
section
variable (s : AStore) (id g k : Int)
theorem hFinds : phi 17 [s.enc, .int .i64 id] = .int .i64 (jobI s id) ∧ phi 11 [s.enc, .int .i64 id] = .int .i64 (jobI s id) ∧
    phi 20 [s.enc, .int .i64 id] = .int .i64 (nodeI s id) ∧ phi 13 [s.enc, .int .i64 id] = .int .i64 (nodeI s id) ∧
    phi 14 [s.enc, .int .i64 id] = .int .i64 (allocI s id) := by
  simp [phi, AStore.dec_enc, toI_int]
theorem hSlot : phi 22 [s.enc, .int .i64 id, .int .i64 g, .int .i64 k] = .int .i64 (slotI s id g k) := by simp [phi, AStore.dec_enc, toI_int]
theorem hSlotR : phi 9 [s.enc, .int .i64 id, .int .i64 g, .int .i64 k] = .int .i64 (slotI s id g k) := by simp [phi, AStore.dec_enc, toI_int]
end
end Go.Proofs.Ytippnelhkdjknaa
