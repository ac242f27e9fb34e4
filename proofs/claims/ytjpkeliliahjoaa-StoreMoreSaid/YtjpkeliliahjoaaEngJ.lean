/-
  The operations that make, write or freeze memory, and calls: what they do, symbolically.
-/
import Derived.Test.YtjpkeliliahjoaaEngI
namespace Go.Eng
open Go Go.RowKit

structure Eff where
  dst : Option Nat
  ent : Cond × SV
  hp : List (Nat × Option (Bool × List SC))
  live : List (Tag × Option (E × TypeId × Ty))
  rd : List Nat
  items : List Item

def lk {α β : Type} [DecidableEq α] : List (α × β) → α → Option β
  | [], _ => none
  | (k, v) :: r, x => if x = k then some v else lk r x
def updL {α β : Type} [DecidableEq α] (h : α → β) (l : List (α × β)) : α → β := fun x => match lk l x with
  | some v => v
  | none => h x

def Eff.app (e : Eff) (σ : St) : St :=
  ⟨match e.dst with | some d => upd σ.tm d (some e.ent) | none => σ.tm, updL σ.hp e.hp, updL σ.live e.live⟩

def guardOf (ops : Array Oper) (σ : St) (o : Oper) : Option Cond :=
  match o.guard with
  | none => some []
  | some (j, want) =>
    match (ops[j]?).bind (·.dst) with
    | some t => match σ.tm t with
      | some (c, .one (.dat e .bool)) => some ((e, want) :: c)
      | _ => none
    | none => none

def opPlain (P : Program) (σ : St) (pc : Cond) (o : Oper) : Option (Pl × List Nat) :=
  match o.op with
  | .load .. => opLoad P σ pc o
  | .move _ | .assign _ => (opMove P σ pc o).map (·, [])
  | .pick .. => (opPick P σ pc o).map (·, [])
  | .binOp .. => (opBin P σ pc o).map (·, [])
  | .unOp .. | .convert .. => (opUn P σ pc o).map (·, [])
  | .extract .. => (opExtract P σ pc o).map (·, [])
  | .fieldAddr .. => (opFieldAddr P σ pc o).map (·, [])
  | .field .. => (opField P σ pc o).map (·, [])
  | .indexAddr .. => (opIndexAddr P σ pc o).map (·, [])
  | .nilCheck _ => (opNil P σ pc o).map (·, [])
  | .slice .. => (opSlice P σ pc o).map (·, [])
  | .build .. => (opBuild P σ pc o).map (·, [])
  | .call { callee := .builtin .len, .. } | .call { callee := .builtin .min, .. } | .call { callee := .builtin .max, .. } => (opLen P σ pc o).map (·, [])
  | _ => none

/-- A new variable: its cells. -/
def opNew (P : Program) (σ : St) (pc : Cond) (o : Oper) : Option (List SC) :=
  match o.op with
  | .alloc t =>
    match flat P fuelT t, (P.info? t).bind (·.zero) with
    | some ts, some z => zeroSCs ts z.cells.toList
    | _, _ => none
  | .box t x => (getV P σ pc x t).bind asCells
  | _ => none

/-- A store into a variable of the call's own: which, and what it holds then. -/
def opStore (P : Program) (σ : St) (pc : Cond) (o : Oper) : Option (Nat × List SC) :=
  match o.op with
  | .store t x y =>
    match getV P σ pc x t, (getV P σ pc y t).bind asCells, sizeT P t with
    | some (.one (.adr id off)), some cs, some n =>
      match σ.hp id with
      | some (false, old) => if cs.length = n ∧ off + cs.length ≤ old.length then some (id, old.take off ++ cs ++ old.drop (off + cs.length)) else none
      | _ => none
    | _, _, _ => none
  | _ => none

/-- What a function literal captures. -/
def capsE (P : Program) (σ : St) (pc : Cond) : List Operand → Option (List (E × Ty) × List (Nat × List SC))
  | [] => some ([], [])
  | x :: r =>
    match getV P σ pc x 0, capsE P σ pc r with
    | some (.one (.adr id 0)), some (es, fz) =>
      match σ.hp id with
      | some (_, cs) => match asDatas cs with
        | some (ds, ts) => some ((.un .ptrc (.ofL ds), .box (.ofL ts)) :: es, (id, cs) :: fz)
        | none => none
      | none => none
    | some (.one (.dat e (.box fs))), some (es, fz) => some ((e, .box fs) :: es, fz)
    | _, _ => none

def opFn (P : Program) (σ : St) (pc : Cond) (o : Oper) : Option (E × Ty × List (Nat × List SC)) :=
  match o.op with
  | .makeFunc (.func f) first captured =>
    if first.toList.isEmpty then
      match capsE P σ pc captured.toList with
      | some (es, fz) => some (.un (.fnc f) (.ofL (es.map (·.1))), .fn f (.ofL (es.map (·.2))), fz)
      | none => none
    else none
  | _ => none

def argsE (P : Program) (σ : St) (pc : Cond) : List Operand → List TypeId → Option (List (E × Ty))
  | [], [] => some []
  | x :: r, t :: ts => match getD_ P σ pc x t, argsE P σ pc r ts with
    | some e, some es => some (e :: es)
    | _, _ => none
  | _, _ => none

abbrev RCell := Ty × Option (Nat × TypeId)
def cellSC (own : Bool) (p : Nat) (e : E) : RCell → SC
  | (t, none) => .dat e t
  | (t, some (j, _)) => if own then .own (p, j) e t else .dat e (.list t)
def cellsSC (own : Bool) (p : Nat) (e : E) : Nat → List RCell → List SC
  | _, [] => []
  | j, c :: r => cellSC own p (.un (.cell j) e) c :: cellsSC own p e (j + 1) r
def compSC (own : Bool) (p : Nat) (e : E) (c : Bool × List RCell) : Bool × List SC :=
  (c.1, if c.1 then cellsSC own p e 0 c.2 else c.2.map (cellSC own p e))
def compsSC (own : Bool) (p : Nat) (e : E) : Nat → List (Bool × List RCell) → List (Bool × List SC)
  | _, [] => []
  | j, c :: r => compSC own p (.un (.cell j) e) c :: compsSC own p e (j + 1) r
def resSV (own : Bool) (p : Nat) : List (Bool × List RCell) → SV
  | [c] => match compSC own p (.var p) c with
    | (true, l) => .agg l
    | (false, l) => .one (l.headD (.nils .nil))
  | cs => .tup (compsSC own p (.var p) 0 cs)

def cellLive (p : Nat) (e : E) : RCell → List (Tag × Option (E × TypeId × Ty))
  | (_, none) => []
  | (t, some (j, T)) => [((p, j), some (e, T, t))]
def cellsLive (p : Nat) (e : E) : Nat → List RCell → List (Tag × Option (E × TypeId × Ty))
  | _, [] => []
  | j, c :: r => cellLive p (.un (.cell j) e) c ++ cellsLive p e (j + 1) r
def compLive (p : Nat) (e : E) (c : Bool × List RCell) : List (Tag × Option (E × TypeId × Ty)) :=
  if c.1 then cellsLive p e 0 c.2 else c.2.flatMap (cellLive p e)
def compsLive (p : Nat) (e : E) : Nat → List (Bool × List RCell) → List (Tag × Option (E × TypeId × Ty))
  | _, [] => []
  | j, c :: r => compLive p (.un (.cell j) e) c ++ compsLive p e (j + 1) r
def resLive (p : Nat) : List (Bool × List RCell) → List (Tag × Option (E × TypeId × Ty))
  | [c] => compLive p (.var p) c
  | cs => compsLive p (.var p) 0 cs
def ownIdx (res : List (Bool × List RCell)) : List Nat := res.flatMap fun c => c.2.filterMap fun x => x.2.map (·.1)

/-- A call of a function that has a contract: which, its arguments. -/
def opCall (P : Program) (cs : List (Nat × Sig)) (σ : St) (pc : Cond) (o : Oper) : Option (Nat × E × Sig) :=
  match o.op with
  | .call { callee := .value f, args, argTypes } =>
    match getV P σ pc f 0, argsE P σ pc args.toList argTypes.toList with
    | some (.one (.dat fe (.fn k fs))), some es =>
      match lk cs k with
      | some sig =>
        if es.map (·.2) ++ fs.toL = sig.params ∧ (ownIdx sig.res).Nodup ∧ (sig.res.all fun c => c.1 || c.2.length == 1) = true then
          some (k, .ofL (es.map (·.1) ++ (cellsE fe 0 fs.toL).map (·.1)), sig)
        else none
      | none => none
    | _, _ => none
  | _ => none

/-- An append onto an owned slice, or onto nil: which is used up; the new slice; its element's type. -/
def opAppend (P : Program) (σ : St) (pc : Cond) (o : Oper) : Option (Option Tag × E × E × TypeId × Ty × Nat) :=
  match o.op with
  | .call { callee := .builtin .append, args, argTypes } =>
    match args.toList, argTypes.toList with
    | [s, x], [t, t'] =>
      match P.underlying t, getV P σ pc s t, getD_ P σ pc x t with
      | some (.slice el), some sv, some (e2, .list u) =>
        match P.info? el, tyV P el with
        | some ie, some u' =>
          if t = t' ∧ u = u' ∧ u.cells.length = ie.size ∧ 0 < ie.size ∧ (u.cells.all Ty.scalar) = true ∧ ((ie.zero.map fun z => z.cells.size) = some ie.size) ∧ ie.bytes = u.bytes then
            match sv with
            | .one (.nils v) => if v = u then some (none, .nil, e2, el, u, ie.bytes) else none
            | .one (.own g _ v) => match σ.live g with
              | some (e1, T, v') => if v = u ∧ v' = u ∧ T = el then some (some g, e1, e2, el, u, ie.bytes) else none
              | none => none
            | _ => none
          else none
        | _, _ => none
      | _, _, _ => none
    | _, _ => none
  | _ => none

def opKind : Op → Nat
  | .alloc _ | .box .. => 1
  | .store .. => 2
  | .makeFunc .. => 3
  | .call { callee := .value _, .. } => 4
  | .call { callee := .builtin .append, .. } => 5
  | .buildSlice .. => 6
  | _ => 0

def effOp (P : Program) (cs : List (Nat × Sig)) (ops : Array Oper) (σ : St) (p : Nat) (o : Oper) : Option Eff :=
  match guardOf ops σ o with
  | none => none
  | some pc =>
    match opKind o.op with
    | 1 => match opNew P σ pc o with
      | some l => if pc = [] ∧ l.all SC.scalar = true then some ⟨o.dst, (pc, .one (.adr p 0)), [(p, some (false, l))], [], [], []⟩ else none
      | none => none
    | 2 => match opStore P σ pc o with
      | some (id, l) => if pc = [] ∧ l.all SC.scalar = true ∧ o.dst = none then some ⟨none, ([], .agg []), [(id, some (false, l))], [], [id], []⟩ else none
      | none => none
    | 3 => match opFn P σ pc o with
      | some (e, t, fz) => some ⟨o.dst, (pc, .one (.dat e t)), fz.map fun x => (x.1, some (true, x.2)), [], fz.map (·.1), []⟩
      | none => none
    | 4 => match opCall P cs σ pc o with
      | some (k, e, sig) => some ⟨o.dst, (pc, resSV pc.isEmpty p sig.res), [], if pc.isEmpty then resLive p sig.res else [], [], [.call p k e pc]⟩
      | none => none
    | 5 => match opAppend P σ pc o with
      | some (g, e1, e2, T, t, b) =>
        if pc = [] then
          some ⟨o.dst, (pc, .one (.own (p, 0) (.bin .cat e1 e2) t)), [], (match g with | some g => [(g, none)] | none => []) ++ [((p, 0), some (.bin .cat e1 e2, T, t))], [], [.room pc (.bin .cat e1 e2) b]⟩
        else none
      | none => none
    | 6 => match opLit P σ pc o with
      | some (e, T, t, _) =>
        if pc.isEmpty then some ⟨o.dst, (pc, .one (.own (p, 0) e t)), [], [((p, 0), some (e, T, t))], [], []⟩
        else some ⟨o.dst, (pc, .one (.dat e (.list t))), [], [], [], []⟩
      | none => none
    | _ => match opPlain P σ pc o with
      | some ((s, is), rd) => some ⟨o.dst, (pc, s), [], [], rd, is⟩
      | none => none

/-- What a call gives back, in the callee's words. -/
structure OwnD (w : World) (base : Nat) (S : Foot) (T : TypeId) (t : Ty) (v : Value) (d : D) : Prop where
  has : Has (.list t) d
  sz : 0 < t.cells.length
  own : ∃ xs l, d = .list l ∧ w.ownsRow base T t.cells.length v l.length xs ∧ (∀ b, v.ownBlock = some b → ∀ o, S b o ↔ o < xs.length) ∧
    ∀ (i : Nat) d (j : Nat) v c, l[i]? = some d → d.cells[j]? = some c → xs[i * t.cells.length + j]? = some v → Rep w S v c

def CellOk (w : World) (base : Nat) (S : Foot) (τ : Nat → Value) : RCell → Value → D → Prop
  | (t, none), v, d => Rep w S v d ∧ Has t d
  | (t, some (j, T)), v, d => v = τ j ∧ OwnD w base S T t (τ j) d
def CompOk (w : World) (base : Nat) (S : Foot) (τ : Nat → Value) (c : Bool × List RCell) (v : Value) (d : D) : Prop :=
  if c.1 then ∃ (vs : List Value) (ds : List D), v = .agg vs.toArray ∧ d = .agg ds ∧ vs.length = c.2.length ∧ ds.length = c.2.length ∧
    ∀ (i : Nat) x u y, c.2[i]? = some x → vs[i]? = some u → ds[i]? = some y → CellOk w base S τ x u y
  else ∃ x, c.2 = [x] ∧ CellOk w base S τ x v d
def ResOk (w : World) (base : Nat) (S : Foot) (τ : Nat → Value) (res : List (Bool × List RCell)) (v : Value) (d : D) : Prop :=
  (∃ c, res = [c] ∧ CompOk w base S τ c v d) ∨
  (res.length ≠ 1 ∧ ∃ (vs : List Value) (ds : List D), v = .tuple vs.toArray ∧ d = .tup ds ∧ vs.length = res.length ∧ ds.length = res.length ∧
    ∀ (i : Nat) x u y, res[i]? = some x → vs[i]? = some u → ds[i]? = some y → CompOk w base S τ x u y)

/-- A function's contract: it gives Φ of what its arguments read as; whatever was there stays as it was. -/
structure PureFn (P : Program) (f : Nat) (sig : Sig) (Pre : List D → Prop) (Φ : List D → D) : Prop where
  enter : ∀ (args : Array Value) (w : World), (callFunc f args).run P w = .ok (.enter f args) w
  calls : ∀ (w : World) (S : Foot) (vs : List Value) (ds : List D), (∀ b o, S b o → b < w.heap.size) → vs.length = ds.length → (∀ (i : Nat) v d, vs[i]? = some v → ds[i]? = some d → Rep w S v d) →
    HasL (.ofL sig.params) ds → Pre ds →
    Calls P f vs.toArray w fun e w' => ∃ v S' τ, e = .returned v ∧ Below w.heap.size w w' ∧ (∀ b o, S b o → S' b o) ∧ (∀ b o, S' b o → b < w'.heap.size) ∧ (∀ b o, S' b o → S b o ∨ w.heap.size ≤ b) ∧
      ResOk w' w.heap.size S' τ sig.res v (Φ ds) ∧ ∀ j k b, j ∈ ownIdx sig.res → k ∈ ownIdx sig.res → (τ j).ownBlock = some b → (τ k).ownBlock = some b → j = k

end Go.Eng
