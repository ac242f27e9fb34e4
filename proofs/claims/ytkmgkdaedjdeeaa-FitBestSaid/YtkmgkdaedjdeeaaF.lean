/-
  What each function of this seat computes.
-/
import Derived.Test.YtkmgkdaedjdeeaaV
import Derived.KernelRfl
set_option linter.unusedSimpArgs false
set_option linter.unusedVariables false
namespace Go.Proofs.Ytkmgkdaedjdeeaa
open Go Go.Eng Go.Proofs


def within (n lo hi : Int) : Bool := decide (lo ≤ n) && decide (n ≤ hi)
def resOk (c m most : Int) : Bool := within c 0 most && within m 0 most
def M : Int := 1152921504606846976
def sumOk (x y : ARes) : Bool := resOk x.CPU x.Mem M && resOk y.CPU y.Mem M && resOk (x.CPU + y.CPU) (x.Mem + y.Mem) M
def addR (x y : ARes) : ARes × Bool := if sumOk x y then (⟨x.CPU + y.CPU, x.Mem + y.Mem⟩, true) else (⟨0, 0⟩, false)
def addD (x y : ARes) : D := .tup [(addR x y).1.enc, .bool (addR x y).2]
def sum1 (a b : Int) : D := if within a 0 M && within b 0 M && decide (a + b ≤ M) then .tup [.int .i64 (a + b), .bool true] else .tup [.int .i64 0, .bool false]
theorem resOk_le {x y m : Int} (h : resOk x y m = true) : 0 ≤ x ∧ x ≤ m ∧ 0 ≤ y ∧ y ≤ m := by
  simp only [resOk, within, Bool.and_eq_true, decide_eq_true_eq] at h; omega
theorem sumOk_iff {x y : ARes} : sumOk x y = true ↔ (0 ≤ x.CPU ∧ 0 ≤ x.Mem ∧ 0 ≤ y.CPU ∧ 0 ≤ y.Mem ∧ x.CPU + y.CPU ≤ M ∧ x.Mem + y.Mem ≤ M) := by
  have hM : M = 1152921504606846976 := rfl
  simp only [sumOk, resOk, within, Bool.and_eq_true, decide_eq_true_eq]
  constructor
  · rintro ⟨⟨⟨⟨_, _⟩, _, _⟩, ⟨_, _⟩, _, _⟩, ⟨_, _⟩, _, _⟩
    exact ⟨by omega, by omega, by omega, by omega, by omega, by omega⟩
  · rintro ⟨_, _, _, _, _, _⟩
    exact ⟨⟨⟨⟨by omega, by omega⟩, by omega, by omega⟩, ⟨by omega, by omega⟩, by omega, by omega⟩, ⟨by omega, by omega⟩, by omega, by omega⟩

def fnId : D → Nat
  | .fn f _ => f
  | _ => 0
def over (a : AAlc) : Bool := decide (3 ≤ a.State)
def fitsR (u a m : ARes) : Bool := (addR u a).2 && decide ((addR u a).1.CPU ≤ m.CPU) && decide ((addR u a).1.Mem ≤ m.Mem)
/-- What is used on a node: from a sum on. -/
def useF (node : Int) : List AAlc → ARes → ARes
  | [], x => x
  | a :: l, x => if a.Node != node || over a then useF node l x
      else if (addR x ⟨a.CPU, a.Mem⟩).2 then useF node l (addR x ⟨a.CPU, a.Mem⟩).1 else ⟨M, M⟩
def used (s : AStore) (node : Int) : ARes := useF node s.Allocs ⟨0, 0⟩
def nodeI (s : AStore) (id : Int) : Int := findF (fun x => x.ID == id) s.Nodes 0
def jobI (s : AStore) (id : Int) : Int := findF (fun x => x.ID == id) s.Jobs 0
def allocI (s : AStore) (id : Int) : Int := findF (fun x => x.ID == id) s.Allocs 0
def evalI (s : AStore) (id : Int) : Int := findF (fun x => x.Job == id) s.Evals 0
def deployI (s : AStore) (id : Int) : Int := findF (fun x => x.Job == id) s.Deploys 0
def stableI (s : AStore) (id : Int) : Int := findF (fun x => x.ID == id) s.Stable 0
def isSlot (j g k : Int) (a : AAlc) : Bool := (a.Job == j) && (a.Group == g) && (a.Index == k) && !over a
def slotI (s : AStore) (j g k : Int) : Int := findF (isSlot j g k) s.Allocs 0

/-- A loop that looks for the first: its rounds. -/
def FJ {α : Type} (p : α → Bool) (l : List α) (k : Nat) (xs : List D) : Prop := ∃ n : Nat, I (.list xs) k = n ∧ n ≤ l.length ∧ findF p (l.drop n) n = findF p l 0
def FM {α : Type} (l : List α) (k : Nat) (xs : List D) : Nat := l.length - (I (.list xs) k).toNat

theorem FJ.start {α : Type} (p : α → Bool) (l : List α) {k : Nat} {xs : List D} (h : I (.list xs) k = 0) : FJ p l k xs := ⟨0, h, Nat.zero_le _, rfl⟩
theorem FJ.next {α : Type} {p : α → Bool} {l : List α} {k n : Nat} {x : α} {xs xs' : List D} (hx : l[n]? = some x) (hf : findF p (l.drop n) n = findF p l 0) (hp : p x = false) (h0 : I (.list xs) k = n) (h1 : I (.list xs') k = (n : Int) + 1) :
    FJ p l k xs' ∧ FM l k xs' < FM l k xs := by
  obtain ⟨hlt, hge⟩ := List.getElem?_eq_some_iff.1 hx
  refine ⟨⟨n + 1, h1, hlt, ?_⟩, ?_⟩
  · rw [drop_some hx, findF, hp] at hf
    simpa using hf
  · simp only [FM, h0, h1]; omega
theorem FJ.hit {α : Type} {p : α → Bool} {l : List α} {n : Nat} {x : α} (hx : l[n]? = some x) (hf : findF p (l.drop n) n = findF p l 0) (hp : p x = true) : findF p l 0 = n := by
  rw [drop_some hx, findF, hp] at hf
  simpa using hf.symm
theorem FJ.done {α : Type} {p : α → Bool} {l : List α} {n : Nat} (hx : l[n]? = none) (hf : findF p (l.drop n) n = findF p l 0) : findF p l 0 = -1 := by
  rw [drop_none hx, findF] at hf
  exact hf.symm

def UJ (node : Int) (l : List AAlc) (xs : List D) : Prop := ∃ n : Nat, I (.list xs) 0 = n ∧ n ≤ l.length ∧ useF node (l.drop n) ⟨I (.list xs) 1, I (.list xs) 2⟩ = useF node l ⟨0, 0⟩

theorem ARes.eta (a : ARes) : (⟨a.CPU, a.Mem⟩ : ARes) = a := rfl
def W (n : Int) : Int := IntKind.wrap .i64 n
theorem W_def (n : Int) : IntKind.wrap .i64 n = W n := rfl
theorem W_id {n : Int} (h1 : -9223372036854775808 ≤ n) (h2 : n ≤ 9223372036854775807) : W n = n := wrap64 h1 h2
def moreF (node : Int) : List AAlc → ARes → ARes × Bool
  | [], x => (x, true)
  | a :: l, x => if a.Node != node then moreF node l x
      else if (addR x ⟨a.CPU, a.Mem⟩).2 then moreF node l (addR x ⟨a.CPU, a.Mem⟩).1 else (⟨0, 0⟩, false)
def usedM (s : AStore) (more : List AAlc) (node : Int) : ARes × Bool := moreF node more (used s node)
def nodeO (s : AStore) (id : Int) : Option ANode := s.Nodes.find? (fun x => x.ID == id)
theorem findF_find {α : Type} (p : α → Bool) : ∀ (l : List α) (i : Int), (findF p l i = -1 ∧ l.find? p = none) ∨ ∃ (n : Nat) (x : α), findF p l i = i + n ∧ l[n]? = some x ∧ l.find? p = some x
  | [], i => .inl ⟨rfl, rfl⟩
  | x :: r, i => by
    unfold findF
    cases hp : p x with
    | true => exact .inr ⟨0, x, by simp, rfl, by simp [hp]⟩
    | false =>
      rcases findF_find p r (i + 1) with ⟨h1, h2⟩ | ⟨n, y, h1, h2, h3⟩
      · exact .inl ⟨by simpa using h1, by simp [hp, h2]⟩
      · exact .inr ⟨n + 1, y, by simp [h1]; omega, by simpa using h2, by simp [hp, h3]⟩
theorem node_cases (s : AStore) (id : Int) : (nodeI s id = -1 ∧ nodeO s id = none) ∨ ∃ (n : Nat) (x : ANode), nodeI s id = n ∧ s.Nodes[n]? = some x ∧ nodeO s id = some x ∧ x.ID = id := by
  rcases findF_find (fun x : ANode => x.ID == id) s.Nodes 0 with ⟨h1, h2⟩ | ⟨n, x, h1, h2, h3⟩
  · exact .inl ⟨h1, h2⟩
  · refine .inr ⟨n, x, by rw [nodeI, h1]; simp, h2, h3, ?_⟩
    simpa using List.find?_some h3
def openN (x : ANode) : Bool := x.Up && !x.Drain
def may (s : AStore) (more : List AAlc) (node : Int) (ask : ARes) : Bool := match nodeO s node with
  | none => false
  | some x => openN x && (usedM s more node).2 && fitsR (usedM s more node).1 ask ⟨x.CPU, x.Mem⟩
def leftR (s : AStore) (more : List AAlc) (node : Int) (ask : ARes) : Int × Bool := match nodeO s node with
  | none => (0, false)
  | some x => if openN x && (usedM s more node).2 && fitsR (usedM s more node).1 ask ⟨x.CPU, x.Mem⟩ then
      (W (W (x.CPU - (addR (usedM s more node).1 ask).1.CPU) + W (x.Mem - (addR (usedM s more node).1 ask).1.Mem)), true) else (0, false)
def lft (s : AStore) (more : List AAlc) (ask : ARes) (x : ANode) : Int :=
  W (W (W (x.CPU - (usedM s more x.ID).1.CPU) - ask.CPU) + W (W (x.Mem - (usedM s more x.ID).1.Mem) - ask.Mem))
def better (x y : Int × Int) : Bool := decide (x.2 < y.2) || (x.2 == y.2 && decide (x.1 < y.1))
def pickB : Option (Int × Int) → Int × Int → Int × Int
  | none, c => c
  | some d, c => if better c d then c else d
def bestF (s : AStore) (more : List AAlc) (ask : ARes) : List ANode → Option (Int × Int) → Option (Int × Int)
  | [], b => b
  | y :: r, b => if may s more y.ID ask then bestF s more ask r (some (pickB b (((nodeO s y.ID).getD default).ID, lft s more ask ((nodeO s y.ID).getD default)))) else bestF s more ask r b
def optR : Option (Int × Int) → Int × Bool
  | none => (0, false)
  | some c => (c.1, true)
def bestR (s : AStore) (more : List AAlc) (ask : ARes) : Int × Bool := optR (bestF s more ask s.Nodes none)
def rbestF (s : AStore) (more : List AAlc) (ask : ARes) : List ANode → Int → Int → Bool → Int × Bool
  | [], b, _, f => (b, f)
  | y :: r, b, l, f => if (leftR s more y.ID ask).2 then
      (if !f || decide ((leftR s more y.ID ask).1 < l) || ((leftR s more y.ID ask).1 == l && decide (y.ID < b)) then rbestF s more ask r y.ID (leftR s more y.ID ask).1 true else rbestF s more ask r b l f)
    else rbestF s more ask r b l f
def K61 : Int := 2305843009213693952
def capsB (s : AStore) : Bool := s.Nodes.all fun c => decide (c.CPU ≤ K61) && decide (c.Mem ≤ K61)
def leftNow (s : AStore) (id : Int) : Int := match nodeO s id with
  | none => 0
  | some x => W (W (x.CPU - (used s id).CPU) + W (x.Mem - (used s id).Mem))
/-- One that is there, too, and a demand. -/
structure AMore where
  a : AAlc
  ask : ARes
def AMore.enc (y : AMore) : D := .agg [.int .i64 y.a.ID, .int .i64 y.a.Job, .int .i64 y.a.Version, .int .i64 y.a.Group, .int .i64 y.a.Index, .int .i64 y.a.Node, .int .i64 y.a.Epoch, .int .i64 y.a.CPU, .int .i64 y.a.Mem, .bool y.a.Stop, .int .i64 y.a.State, .int .i64 y.ask.CPU, .int .i64 y.ask.Mem]
theorem AMore.toL (y : AMore) : y.enc.toL = [.int .i64 y.a.ID, .int .i64 y.a.Job, .int .i64 y.a.Version, .int .i64 y.a.Group, .int .i64 y.a.Index, .int .i64 y.a.Node, .int .i64 y.a.Epoch, .int .i64 y.a.CPU, .int .i64 y.a.Mem, .bool y.a.Stop, .int .i64 y.a.State, .int .i64 y.ask.CPU, .int .i64 y.ask.Mem] := rfl
theorem AMore.cases {d : D} (h : Has moreT d) : ∃ y : AMore, d = y.enc ∧ y.a.Ok ∧ y.ask.Ok := by
  obtain ⟨_, rfl, _, _, rfl, ⟨x0, rfl, h0⟩, _, _, rfl, ⟨x1, rfl, h1⟩, _, _, rfl, ⟨x2, rfl, h2⟩, _, _, rfl, ⟨x3, rfl, h3⟩, _, _, rfl, ⟨x4, rfl, h4⟩, _, _, rfl, ⟨x5, rfl, h5⟩, _, _, rfl, ⟨x6, rfl, h6⟩, _, _, rfl, ⟨x7, rfl, h7⟩, _, _, rfl, ⟨x8, rfl, h8⟩, _, _, rfl, ⟨x9, rfl⟩, _, _, rfl, ⟨x10, rfl, h10⟩, _, _, rfl, ⟨x11, rfl, h11⟩, _, _, rfl, ⟨x12, rfl, h12⟩, rfl⟩ := h
  exact ⟨⟨⟨x0, x1, x2, x3, x4, x5, x6, x7, x8, x9, x10⟩, ⟨x11, x12⟩⟩, rfl, ⟨h0, h1, h2, h3, h4, h5, h6, h7, h8, trivial, h10⟩, ⟨h11, h12⟩⟩
def encO : Option (Int × Int) → D
  | none => .nilp
  | some c => .ptr [.int .i64 c.1, .int .i64 c.2]

/-- What each function gives. -/
def phi (f : Nat) (ds : List D) : D :=
  let a := ds.getD 0 .top; let b := ds.getD 1 .top; let c := ds.getD 2 .top; let d := ds.getD 3 .top
  match f with
  | 28 => .bool (within a.toI b.toI c.toI)
  | 27 => .bool (within a.toI 0 (I b 0))
  | 25 => .bool (resOk (I a 0) (I a 1) b.toI)
  | 22 => addD (ARes.dec a) (ARes.dec b)
  | 26 => sum1 a.toI b.toI
  | 23 => addD (ARes.dec a) (ARes.dec b)
  | 15 => .bool (fitsR (ARes.dec a) (ARes.dec b) (ARes.dec c))
  | 24 => .bool (over (AAlc.dec a))
  | 21 => (used (AStore.dec a) b.toI).enc
  | 18 => (used (AStore.dec a) b.toI).enc
  | 20 => .bool ((ANode.dec a).ID == I b 0)
  | 19 => .int .i64 (findF (fun x => x.ID == I (b.toL.getD 0 .top) 0) (decL ANode.dec a) 0)
  | 13 => .int .i64 (nodeI (AStore.dec a) b.toI)
  | 17 => .int .i64 (nodeI (AStore.dec a) b.toI)
  | 14 => .tup [(usedM (AStore.dec a) (decL AAlc.dec b) c.toI).1.enc, .bool (usedM (AStore.dec a) (decL AAlc.dec b) c.toI).2]
  | 8 => .bool (may (AStore.dec a) (decL AAlc.dec b) c.toI (ARes.dec d))
  | 16 => .tup [.int .i64 (leftR (AStore.dec a) (decL AAlc.dec b) c.toI (ARes.dec d)).1, .bool (leftR (AStore.dec a) (decL AAlc.dec b) c.toI (ARes.dec d)).2]
  | 9 => .bool (leftR (AStore.dec a) (decL AAlc.dec b) c.toI (ARes.dec d)).2
  | 10 => .tup [.int .i64 (bestR (AStore.dec a) (decL AAlc.dec b) (ARes.dec c)).1, .bool (bestR (AStore.dec a) (decL AAlc.dec b) (ARes.dec c)).2]
  | 11 => .tup [.int .i64 (rbestF (AStore.dec a) (decL AAlc.dec b) (ARes.dec c) (AStore.dec a).Nodes 0 0 false).1, .bool (rbestF (AStore.dec a) (decL AAlc.dec b) (ARes.dec c) (AStore.dec a).Nodes 0 0 false).2]
  | 12 => .int .i64 (leftNow (AStore.dec a) b.toI)
  | 6 => .bool (capsB (AStore.dec a))
  | 7 => .bool true
  | 3 => .bool true
  | 4 => .bool true
  | 5 => .bool true
  | _ => .bool true
def pre (f : Nat) (ds : List D) : Prop :=
  let a := ds.getD 0 .top; let b := ds.getD 1 .top; let c := ds.getD 2 .top; let d := ds.getD 3 .top
  match f with
  | 12 => nodeO (AStore.dec a) b.toI ≠ none
  | 4 => b.toL.length * 88 ≤ 140737488355328 - 4096
  | _ => True
theorem mix : Try.prog.follows .mixedOrders = true := by kernel_rfl

section
variable (s : AStore) (more : List AAlc) (node : Int) (ask : ARes)
theorem hNode : phi 13 [s.enc, .int .i64 node] = .int .i64 (nodeI s node) := by simp [phi, AStore.dec_enc, toI_int]
theorem hNodeR : phi 17 [s.enc, .int .i64 node] = .int .i64 (nodeI s node) := by simp [phi, AStore.dec_enc, toI_int]
theorem hUsed : phi 21 [s.enc, .int .i64 node] = (used s node).enc := by simp [phi, AStore.dec_enc, toI_int]
theorem hUsedR : phi 18 [s.enc, .int .i64 node] = (used s node).enc := by simp [phi, AStore.dec_enc, toI_int]
theorem hAdd (u v a b : Int) : phi 22 [.agg [.int .i64 u, .int .i64 v], .agg [.int .i64 a, .int .i64 b]] = .tup [.agg [.int .i64 (addR ⟨u, v⟩ ⟨a, b⟩).1.CPU, .int .i64 (addR ⟨u, v⟩ ⟨a, b⟩).1.Mem], .bool (addR ⟨u, v⟩ ⟨a, b⟩).2] := rfl
theorem hAddR (u v a b : Int) : phi 23 [.agg [.int .i64 u, .int .i64 v], .agg [.int .i64 a, .int .i64 b]] = .tup [.agg [.int .i64 (addR ⟨u, v⟩ ⟨a, b⟩).1.CPU, .int .i64 (addR ⟨u, v⟩ ⟨a, b⟩).1.Mem], .bool (addR ⟨u, v⟩ ⟨a, b⟩).2] := rfl
theorem hFits (u v a b c d : Int) : phi 15 [.agg [.int .i64 u, .int .i64 v], .agg [.int .i64 a, .int .i64 b], .agg [.int .i64 c, .int .i64 d]] = .bool (fitsR ⟨u, v⟩ ⟨a, b⟩ ⟨c, d⟩) := rfl
theorem hUsedM : phi 14 [s.enc, encL AAlc.enc more, .int .i64 node] = .tup [.agg [.int .i64 (usedM s more node).1.CPU, .int .i64 (usedM s more node).1.Mem], .bool (usedM s more node).2] := by simp [phi, AStore.dec_enc, AAlc.decl, toI_int, ARes.enc]
theorem hMay : phi 8 [s.enc, encL AAlc.enc more, .int .i64 node, .agg [.int .i64 ask.CPU, .int .i64 ask.Mem]] = .bool (may s more node ask) := by
  have : ARes.dec (.agg [.int .i64 ask.CPU, .int .i64 ask.Mem]) = ask := rfl
  simp [phi, AStore.dec_enc, AAlc.decl, toI_int, this]
theorem hMay2 (u v : Int) : phi 8 [s.enc, encL AAlc.enc more, .int .i64 node, .agg [.int .i64 u, .int .i64 v]] = .bool (may s more node ⟨u, v⟩) := hMay s more node ⟨u, v⟩
theorem hLeft : phi 16 [s.enc, encL AAlc.enc more, .int .i64 node, .agg [.int .i64 ask.CPU, .int .i64 ask.Mem]] = .tup [.int .i64 (leftR s more node ask).1, .bool (leftR s more node ask).2] := by
  have : ARes.dec (.agg [.int .i64 ask.CPU, .int .i64 ask.Mem]) = ask := rfl
  simp [phi, AStore.dec_enc, AAlc.decl, toI_int, this]
theorem hMayR : phi 9 [s.enc, encL AAlc.enc more, .int .i64 node, .agg [.int .i64 ask.CPU, .int .i64 ask.Mem]] = .bool (leftR s more node ask).2 := by
  have : ARes.dec (.agg [.int .i64 ask.CPU, .int .i64 ask.Mem]) = ask := rfl
  simp [phi, AStore.dec_enc, AAlc.decl, toI_int, this]
theorem hBest : phi 10 [s.enc, encL AAlc.enc more, .agg [.int .i64 ask.CPU, .int .i64 ask.Mem]] = .tup [.int .i64 (bestR s more ask).1, .bool (bestR s more ask).2] := by
  have : ARes.dec (.agg [.int .i64 ask.CPU, .int .i64 ask.Mem]) = ask := rfl
  simp [phi, AStore.dec_enc, AAlc.decl, toI_int, this]
theorem hBestR : phi 11 [s.enc, encL AAlc.enc more, .agg [.int .i64 ask.CPU, .int .i64 ask.Mem]] = .tup [.int .i64 (rbestF s more ask s.Nodes 0 0 false).1, .bool (rbestF s more ask s.Nodes 0 0 false).2] := by
  have : ARes.dec (.agg [.int .i64 ask.CPU, .int .i64 ask.Mem]) = ask := rfl
  simp [phi, AStore.dec_enc, AAlc.decl, toI_int, this]
theorem hLeftNow : phi 12 [s.enc, .int .i64 node] = .int .i64 (leftNow s node) := by simp [phi, AStore.dec_enc, toI_int]
theorem hCaps : phi 6 [s.enc] = .bool (capsB s) := by simp [phi, AStore.dec_enc]
theorem hLives : phi 7 [] = .bool true := rfl
theorem nil_enc : D.list [] = encL AAlc.enc [] := rfl
end
end Go.Proofs.Ytkmgkdaedjdeeaa
