/-
  What each function of this seat computes.
-/
import Derived.Test.YtjpkeliliahjoaaV
import Derived.KernelRfl
set_option linter.unusedSimpArgs false
set_option linter.unusedVariables false
namespace Go.Proofs.Ytjpkeliliahjoaa
open Go Go.Eng Go.Proofs


def within (n lo hi : Int) : Bool := decide (lo ≤ n) && decide (n ≤ hi)
def resOk (c m most : Int) : Bool := within c 0 most && within m 0 most
def M : Int := 1152921504606846976
def sumOk (x y : ARes) : Bool := resOk x.CPU x.Mem M && resOk y.CPU y.Mem M && resOk (x.CPU + y.CPU) (x.Mem + y.Mem) M
def addR (x y : ARes) : ARes × Bool := if sumOk x y then (⟨x.CPU + y.CPU, x.Mem + y.Mem⟩, true) else (⟨0, 0⟩, false)
def addD (x y : ARes) : D := .tup [(addR x y).1.enc, .bool (addR x y).2]
def sum1 (a b : Int) : D := if within a 0 M && within b 0 M && decide (a + b ≤ M) then .tup [.int .i64 (a + b), .bool true] else .tup [.int .i64 0, .bool false]
theorem resOk_le {x y m : Int} (h : resOk x y m = true) : 0 ≤ x ∧ x ≤ m ∧ 0 ≤ y ∧ y ≤ m := by
  simp only [resOk, within, Bool.and_eq_true, decide_eq_true_eq] at h; omega
theorem sumOk_iff {x y : ARes} : sumOk x y = true ↔ (0 ≤ x.CPU ∧ 0 ≤ x.Mem ∧ 0 ≤ y.CPU ∧ 0 ≤ y.Mem ∧ x.CPU + y.CPU ≤ M ∧ x.Mem + y.Mem ≤ M) := by
  have hM : M = 1152921504606846976 := rfl
  simp only [sumOk, resOk, within, Bool.and_eq_true, decide_eq_true_eq]
  constructor
  · rintro ⟨⟨⟨⟨_, _⟩, _, _⟩, ⟨_, _⟩, _, _⟩, ⟨_, _⟩, _, _⟩
    exact ⟨by omega, by omega, by omega, by omega, by omega, by omega⟩
  · rintro ⟨_, _, _, _, _, _⟩
    exact ⟨⟨⟨⟨by omega, by omega⟩, by omega, by omega⟩, ⟨by omega, by omega⟩, by omega, by omega⟩, ⟨by omega, by omega⟩, by omega, by omega⟩

def fnId : D → Nat
  | .fn f _ => f
  | _ => 0
def over (a : AAlc) : Bool := decide (3 ≤ a.State)
def fitsR (u a m : ARes) : Bool := (addR u a).2 && decide ((addR u a).1.CPU ≤ m.CPU) && decide ((addR u a).1.Mem ≤ m.Mem)
/-- What is used on a node: from a sum on. -/
def useF (node : Int) : List AAlc → ARes → ARes
  | [], x => x
  | a :: l, x => if a.Node != node || over a then useF node l x
      else if (addR x ⟨a.CPU, a.Mem⟩).2 then useF node l (addR x ⟨a.CPU, a.Mem⟩).1 else ⟨M, M⟩
def used (s : AStore) (node : Int) : ARes := useF node s.Allocs ⟨0, 0⟩
def nodeI (s : AStore) (id : Int) : Int := findF (fun x => x.ID == id) s.Nodes 0
def jobI (s : AStore) (id : Int) : Int := findF (fun x => x.ID == id) s.Jobs 0
def allocI (s : AStore) (id : Int) : Int := findF (fun x => x.ID == id) s.Allocs 0
def evalI (s : AStore) (id : Int) : Int := findF (fun x => x.Job == id) s.Evals 0
def deployI (s : AStore) (id : Int) : Int := findF (fun x => x.Job == id) s.Deploys 0
def stableI (s : AStore) (id : Int) : Int := findF (fun x => x.ID == id) s.Stable 0
def isSlot (j g k : Int) (a : AAlc) : Bool := (a.Job == j) && (a.Group == g) && (a.Index == k) && !over a
def slotI (s : AStore) (j g k : Int) : Int := findF (isSlot j g k) s.Allocs 0

/-- A loop that looks for the first: its rounds. -/
def FJ {α : Type} (p : α → Bool) (l : List α) (k : Nat) (xs : List D) : Prop := ∃ n : Nat, I (.list xs) k = n ∧ n ≤ l.length ∧ findF p (l.drop n) n = findF p l 0
def FM {α : Type} (l : List α) (k : Nat) (xs : List D) : Nat := l.length - (I (.list xs) k).toNat

theorem FJ.start {α : Type} (p : α → Bool) (l : List α) {k : Nat} {xs : List D} (h : I (.list xs) k = 0) : FJ p l k xs := ⟨0, h, Nat.zero_le _, rfl⟩
theorem FJ.next {α : Type} {p : α → Bool} {l : List α} {k n : Nat} {x : α} {xs xs' : List D} (hx : l[n]? = some x) (hf : findF p (l.drop n) n = findF p l 0) (hp : p x = false) (h0 : I (.list xs) k = n) (h1 : I (.list xs') k = (n : Int) + 1) :
    FJ p l k xs' ∧ FM l k xs' < FM l k xs := by
  obtain ⟨hlt, hge⟩ := List.getElem?_eq_some_iff.1 hx
  refine ⟨⟨n + 1, h1, hlt, ?_⟩, ?_⟩
  · rw [drop_some hx, findF, hp] at hf
    simpa using hf
  · simp only [FM, h0, h1]; omega
theorem FJ.hit {α : Type} {p : α → Bool} {l : List α} {n : Nat} {x : α} (hx : l[n]? = some x) (hf : findF p (l.drop n) n = findF p l 0) (hp : p x = true) : findF p l 0 = n := by
  rw [drop_some hx, findF, hp] at hf
  simpa using hf.symm
theorem FJ.done {α : Type} {p : α → Bool} {l : List α} {n : Nat} (hx : l[n]? = none) (hf : findF p (l.drop n) n = findF p l 0) : findF p l 0 = -1 := by
  rw [drop_none hx, findF] at hf
  exact hf.symm

def UJ (node : Int) (l : List AAlc) (xs : List D) : Prop := ∃ n : Nat, I (.list xs) 0 = n ∧ n ≤ l.length ∧ useF node (l.drop n) ⟨I (.list xs) 1, I (.list xs) 2⟩ = useF node l ⟨0, 0⟩

theorem ARes.eta (a : ARes) : (⟨a.CPU, a.Mem⟩ : ARes) = a := rfl
theorem findF_at {α : Type} (p : α → Bool) (l : List α) : findF p l 0 = -1 ∨ ∃ (n : Nat) (x : α), findF p l 0 = n ∧ l[n]? = some x ∧ p x = true := by
  rcases findF_cases p l 0 with ⟨h, _⟩ | ⟨n, x, h1, h2, h3, _⟩
  · exact .inl h
  · exact .inr ⟨n, x, by rw [h1]; simp, h2, h3⟩
def cntG (g : AGrp) : Int := max 0 (min g.Count 4)
/-- Does a slot run? -/
def hit (s : AStore) (j : AJob) (id g k : Int) : Int := match s.Allocs.find? (isSlot id g k) with
  | none => 0
  | some a => if a.Version == j.Version && a.State == 2 && !a.Stop then 1 else 0
def runK (s : AStore) (j : AJob) (id g : Int) : Nat → Int
  | 0 => 0
  | n + 1 => runK s j id g n + hit s j id g n
def slotsF (s : AStore) (j : AJob) (id : Int) : List AGrp → Int → Int → Int → Int × Int
  | [], _, all, run => (all, run)
  | x :: r, g, all, run => slotsF s j id r (g + 1) (all + cntG x) (run + runK s j id g (cntG x).toNat)
def slotsR (s : AStore) (id : Int) : Int × Int := match s.Jobs.find? (fun x => x.ID == id) with
  | none => (0, 0)
  | some j => if j.Kind == 3 then (0, 0) else slotsF s j id j.Groups 0 0 0
theorem findF_find {α : Type} (p : α → Bool) : ∀ (l : List α) (i : Int), (findF p l i = -1 ∧ l.find? p = none) ∨ ∃ (n : Nat) (x : α), findF p l i = i + n ∧ l[n]? = some x ∧ l.find? p = some x
  | [], i => .inl ⟨rfl, rfl⟩
  | x :: r, i => by
    unfold findF
    cases hp : p x with
    | true => exact .inr ⟨0, x, by simp, rfl, by simp [hp]⟩
    | false =>
      rcases findF_find p r (i + 1) with ⟨h1, h2⟩ | ⟨n, y, h1, h2, h3⟩
      · exact .inl ⟨by simpa using h1, by simp [hp, h2]⟩
      · exact .inr ⟨n + 1, y, by simp [h1]; omega, by simpa using h2, by simp [hp, h3]⟩
theorem find0 {α : Type} (p : α → Bool) (l : List α) : (findF p l 0 = -1 ∧ l.find? p = none) ∨ ∃ (n : Nat) (x : α), findF p l 0 = n ∧ l[n]? = some x ∧ l.find? p = some x := by
  rcases findF_find p l 0 with h | ⟨n, x, h1, h2⟩
  · exact .inl h
  · exact .inr ⟨n, x, by rw [h1]; simp, h2⟩
structure AAsk where
  ID : Int
  Group : Int
  Index : Int
  a : AAlc
def AAsk.enc (y : AAsk) : D := .agg [.int .i64 y.ID, .int .i64 y.Group, .int .i64 y.Index, .int .i64 y.a.ID, .int .i64 y.a.Job, .int .i64 y.a.Version, .int .i64 y.a.Group, .int .i64 y.a.Index, .int .i64 y.a.Node, .int .i64 y.a.Epoch, .int .i64 y.a.CPU, .int .i64 y.a.Mem, .bool y.a.Stop, .int .i64 y.a.State]
theorem AAsk.toL (y : AAsk) : y.enc.toL = [.int .i64 y.ID, .int .i64 y.Group, .int .i64 y.Index, .int .i64 y.a.ID, .int .i64 y.a.Job, .int .i64 y.a.Version, .int .i64 y.a.Group, .int .i64 y.a.Index, .int .i64 y.a.Node, .int .i64 y.a.Epoch, .int .i64 y.a.CPU, .int .i64 y.a.Mem, .bool y.a.Stop, .int .i64 y.a.State] := rfl
theorem AAsk.cases {d : D} (h : Has askT d) : ∃ y : AAsk, d = y.enc := by
  obtain ⟨_, rfl, _, _, rfl, ⟨y0, rfl, _⟩, _, _, rfl, ⟨y1, rfl, _⟩, _, _, rfl, ⟨y2, rfl, _⟩, _, _, rfl, ⟨x0, rfl, h0⟩, _, _, rfl, ⟨x1, rfl, h1⟩, _, _, rfl, ⟨x2, rfl, h2⟩, _, _, rfl, ⟨x3, rfl, h3⟩, _, _, rfl, ⟨x4, rfl, h4⟩, _, _, rfl, ⟨x5, rfl, h5⟩, _, _, rfl, ⟨x6, rfl, h6⟩, _, _, rfl, ⟨x7, rfl, h7⟩, _, _, rfl, ⟨x8, rfl, h8⟩, _, _, rfl, ⟨x9, rfl⟩, _, _, rfl, ⟨x10, rfl, h10⟩, rfl⟩ := h
  exact ⟨⟨y0, y1, y2, ⟨x0, x1, x2, x3, x4, x5, x6, x7, x8, x9, x10⟩⟩, rfl⟩
def knownS : AStore := ⟨0, 0, [⟨1, 1, 0, 0, [⟨2, 0, 0⟩], 2, false⟩], [], [], [⟨5, 1, 2, 0, 0, 3, 0, 10, 1, false, 2⟩, ⟨6, 1, 2, 0, 1, 3, 0, 10, 1, false, 6⟩], [], [], []⟩

/-- What each function gives. -/
def phi (f : Nat) (ds : List D) : D :=
  let a := ds.getD 0 .top; let b := ds.getD 1 .top; let c := ds.getD 2 .top; let d := ds.getD 3 .top
  match f with
  | 73 => .bool (within a.toI b.toI c.toI)
  | 72 => .bool (within a.toI 0 (I b 0))
  | 67 => .bool (resOk (I a 0) (I a 1) b.toI)
  | 34 => addD (ARes.dec a) (ARes.dec b)
  | 68 => sum1 a.toI b.toI
  | 35 => addD (ARes.dec a) (ARes.dec b)
  | 28 => .bool (over (AAlc.dec a))
  | 29 => .bool (over (AAlc.dec a))
  | 37 => .bool (isSlot (I b 0) (I c 0) (I d 0) (AAlc.dec a))
  | 36 => .int .i64 (if fnId b = 37 then findF (isSlot (I (b.toL.getD 0 .top) 0) (I (b.toL.getD 1 .top) 0) (I (b.toL.getD 2 .top) 0)) (decL AAlc.dec a) 0 else findF (fun x => x.ID == I (b.toL.getD 0 .top) 0) (decL AAlc.dec a) 0)
  | 12 => .int .i64 (slotI (AStore.dec a) b.toI c.toI d.toI)
  | 13 => .int .i64 (slotI (AStore.dec a) b.toI c.toI d.toI)
  | 41 => .bool ((AJob.dec a).ID == I b 0)
  | 40 => .int .i64 (findF (fun x => x.ID == I (b.toL.getD 0 .top) 0) (decL AJob.dec a) 0)
  | 16 => .int .i64 (jobI (AStore.dec a) b.toI)
  | 17 => .int .i64 (jobI (AStore.dec a) b.toI)
  | 43 => .bool ((ANode.dec a).ID == I b 0)
  | 42 => .int .i64 (findF (fun x => x.ID == I (b.toL.getD 0 .top) 0) (decL ANode.dec a) 0)
  | 18 => .int .i64 (nodeI (AStore.dec a) b.toI)
  | 19 => .int .i64 (nodeI (AStore.dec a) b.toI)
  | 44 => .bool ((AAlc.dec a).ID == I b 0)
  | 20 => .int .i64 (allocI (AStore.dec a) b.toI)
  | 21 => .int .i64 (allocI (AStore.dec a) b.toI)
  | 46 => .bool ((AEvl.dec a).Job == I b 0)
  | 45 => .int .i64 (findF (fun x => x.Job == I (b.toL.getD 0 .top) 0) (decL AEvl.dec a) 0)
  | 22 => .int .i64 (evalI (AStore.dec a) b.toI)
  | 23 => .int .i64 (evalI (AStore.dec a) b.toI)
  | 48 => .bool ((AEvl.dec a).Job == I b 0)
  | 47 => .int .i64 (findF (fun x => x.Job == I (b.toL.getD 0 .top) 0) (decL AEvl.dec a) 0)
  | 24 => .int .i64 (deployI (AStore.dec a) b.toI)
  | 25 => .int .i64 (deployI (AStore.dec a) b.toI)
  | 49 => .bool ((AJob.dec a).ID == I b 0)
  | 26 => .int .i64 (stableI (AStore.dec a) b.toI)
  | 27 => .int .i64 (stableI (AStore.dec a) b.toI)
  | 10 => (used (AStore.dec a) b.toI).enc
  | 11 => (used (AStore.dec a) b.toI).enc
  | 8 => .tup [.int .i64 (slotsR (AStore.dec a) b.toI).1, .int .i64 (slotsR (AStore.dec a) b.toI).2]
  | 9 => .tup [.int .i64 (slotsR (AStore.dec a) b.toI).1, .int .i64 (slotsR (AStore.dec a) b.toI).2]
  | 38 => knownS.enc
  | 14 => .bool true
  | 3 => .bool true
  | 5 => .bool true
  | 39 => a
  | 15 => a
  | 4 => .bool true
  | 71 => .bool (decide (decL AGrp.dec a = decL AGrp.dec b))
  | 61 => .bool (decide (decL ANode.dec a = decL ANode.dec b))
  | 62 => .bool (decide (decL AAlc.dec a = decL AAlc.dec b))
  | 63 => .bool (decide (decL AEvl.dec a = decL AEvl.dec b))
  | 64 => .bool (decide (decL AEvl.dec a = decL AEvl.dec b))
  | 60 => .bool (decide (AJob.dec a = AJob.dec b))
  | 66 => .bool (decide (ASeen.dec a = ASeen.dec b))
  | 59 => .bool (decide (decL AJob.dec a = decL AJob.dec b))
  | 65 => .bool (decide (decL ASeen.dec a = decL ASeen.dec b))
  | 33 => .bool (decide (AStore.dec a = AStore.dec b))
  | 70 => .bool (decide (AJob.dec a = AJob.dec b))
  | 56 => .bool (decide (decL AJob.dec a = decL AJob.dec b))
  | 57 => .bool (decide (decL AAlc.dec a = decL AAlc.dec b))
  | 58 => .bool (decide (I a 0 = I b 0 ∧ I a 1 = I b 1 ∧ decL AAlc.dec (a.toL.getD 2 .top) = decL AAlc.dec (b.toL.getD 2 .top)))
  | 31 => .bool (decide (AStore.dec a = AStore.dec b))
  | 7 => .bool true
  | 51 => a
  | 52 => a
  | 53 => a
  | 54 => a
  | 55 => a
  | 74 => a
  | 69 => a
  | 50 => a
  | _ => .bool true
def pre (f : Nat) (ds : List D) : Prop :=
  let a := ds.getD 0 .top; let b := ds.getD 1 .top; let c := ds.getD 2 .top; let d := ds.getD 3 .top
  match f with
  | 4 => (a.toL.getD 5 .top).toL.length * 88 ≤ 140737488355328 - 4096
  | _ => True
theorem mix : Try.prog.follows .mixedOrders = true := by kernel_rfl

/-- A loop that counts. -/
def NM (hi : Int) (k : Nat) (xs : List D) : Nat := (hi - I (.list xs) k).toNat
section
variable (s : AStore) (id g k : Int)
theorem hFinds : phi 16 [s.enc, .int .i64 id] = .int .i64 (jobI s id) ∧ phi 17 [s.enc, .int .i64 id] = .int .i64 (jobI s id) ∧
    phi 18 [s.enc, .int .i64 id] = .int .i64 (nodeI s id) ∧ phi 19 [s.enc, .int .i64 id] = .int .i64 (nodeI s id) ∧
    phi 20 [s.enc, .int .i64 id] = .int .i64 (allocI s id) ∧ phi 21 [s.enc, .int .i64 id] = .int .i64 (allocI s id) ∧
    phi 22 [s.enc, .int .i64 id] = .int .i64 (evalI s id) ∧ phi 23 [s.enc, .int .i64 id] = .int .i64 (evalI s id) ∧
    phi 24 [s.enc, .int .i64 id] = .int .i64 (deployI s id) ∧ phi 25 [s.enc, .int .i64 id] = .int .i64 (deployI s id) ∧
    phi 26 [s.enc, .int .i64 id] = .int .i64 (stableI s id) ∧ phi 27 [s.enc, .int .i64 id] = .int .i64 (stableI s id) := by
  simp [phi, AStore.dec_enc, toI_int]
theorem hSlot : phi 12 [s.enc, .int .i64 id, .int .i64 g, .int .i64 k] = .int .i64 (slotI s id g k) := by simp [phi, AStore.dec_enc, toI_int]
theorem hSlotR : phi 13 [s.enc, .int .i64 id, .int .i64 g, .int .i64 k] = .int .i64 (slotI s id g k) := by simp [phi, AStore.dec_enc, toI_int]
theorem hSlots : phi 8 [s.enc, .int .i64 id] = .tup [.int .i64 (slotsR s id).1, .int .i64 (slotsR s id).2] := by simp [phi, AStore.dec_enc, toI_int]
theorem hSlotsR : phi 9 [s.enc, .int .i64 id] = .tup [.int .i64 (slotsR s id).1, .int .i64 (slotsR s id).2] := by simp [phi, AStore.dec_enc, toI_int]
theorem hUsed : phi 10 [s.enc, .int .i64 id] = (used s id).enc := by simp [phi, AStore.dec_enc, toI_int]
theorem hUsedR : phi 11 [s.enc, .int .i64 id] = (used s id).enc := by simp [phi, AStore.dec_enc, toI_int]
theorem hLives : phi 14 [] = .bool true := rfl
end
end Go.Proofs.Ytjpkeliliahjoaa
