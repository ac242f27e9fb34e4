/-
  The operations that make, write or freeze memory, and calls: what they do, symbolically.
-/
import Derived.Test.YtjpkeliliahjoaaEngI
namespace Go.Eng
open Go Go.RowKit

structure Eff where
  dst : Option Nat
  ent : Cond × SV
  hp : List (Nat × Option (Bool × List SC))
  live : List (Tag × Option (E × TypeId × Ty))
  rd : List Nat
  items : List Item

def lk {α β : Type} [DecidableEq α] : List (α × β) → α → Option β
  | [], _ => none
  | (k, v) :: r, x => if x = k then some v else lk r x
def updL {α β : Type} [DecidableEq α] (h : α → β) (l : List (α × β)) : α → β := fun x => match lk l x with
  | some v => v
  | none => h x

def Eff.app (e : Eff) (σ : St) : St :=
  ⟨match e.dst with | some d => upd σ.tm d (some e.ent) | none => σ.tm, updL σ.hp e.hp, updL σ.live e.live⟩

def guardOf (ops : Array Oper) (σ : St) (o : Oper) : Option Cond :=
  match o.guard with
  | none => some []
  | some (j, want) =>
    match (ops[j]?).bind (·.dst) with
    | some t => match σ.tm t with
      | some (c, .one (.dat e .bool)) => some ((e, want) :: c)
      | _ => none
    | none => none

def opPlain (P : Program) (σ : St) (pc : Cond) (o : Oper) : Option (Pl × List Nat) :=
  match o.op with
  | .load .. => opLoad P σ pc o
  | .move _ | .assign _ => (opMove P σ pc o).map (·, [])
  | .pick .. => (opPick P σ pc o).map (·, [])
  | .binOp .. => (opBin2 P σ pc o).map (·, [])
  | .unOp .. | .convert .. => (opUn P σ pc o).map (·, [])
  | .extract .. => (opExtract P σ pc o).map (·, [])
  | .fieldAddr .. => (opFieldAddr P σ pc o).map (·, [])
  | .field .. => (opField P σ pc o).map (·, [])
  | .indexAddr .. => (opIndexAddr P σ pc o).map (·, [])
  | .nilCheck _ => (opNil P σ pc o).map (·, [])
  | .slice _ _ _ _ none => (opSlice P σ pc o).map (·, [])
  | .slice .. => (opSlice3 P σ pc o).map (·, [])
  | .build .. => (opBuild P σ pc o).map (·, [])
  | .call { callee := .builtin .len, .. } | .call { callee := .builtin .min, .. } | .call { callee := .builtin .max, .. } => (opLen P σ pc o).map (·, [])
  | _ => none

/-- A new variable: its cells. -/
def opNew (P : Program) (σ : St) (pc : Cond) (o : Oper) : Option (List SC) :=
  match o.op with
  | .alloc t =>
    match flat P fuelF t, (P.info? t).bind (·.zero) with
    | some ts, some z => zeroSCs ts z.cells.toList
    | _, _ => none
  | .box t x => (getV P σ pc x t).bind asCells
  | _ => none

/-- A store into a variable of the call's own: which, and what it holds then. -/
def opStore (P : Program) (σ : St) (pc : Cond) (o : Oper) : Option (Nat × List SC) :=
  match o.op with
  | .store t x y =>
    match getV P σ pc x t, (getV P σ pc y t).bind asCells, sizeT P t with
    | some (.one (.adr id off)), some cs, some n =>
      match σ.hp id with
      | some (false, old) => if cs.length = n ∧ off + cs.length ≤ old.length then some (id, old.take off ++ cs ++ old.drop (off + cs.length)) else none
      | _ => none
    | _, _, _ => none
  | _ => none

/-- What a function literal captures. -/
def capsE (P : Program) (σ : St) (pc : Cond) : List Operand → Option (List (E × Ty) × List (Nat × List SC))
  | [] => some ([], [])
  | x :: r =>
    match getV P σ pc x 0, capsE P σ pc r with
    | some (.one (.adr id 0)), some (es, fz) =>
      match σ.hp id with
      | some (_, cs) => match asDatas cs with
        | some (ds, ts) => some ((.un .ptrc (.ofL ds), .box (.ofL ts)) :: es, (id, cs) :: fz)
        | none => none
      | none => none
    | some (.one (.dat e (.box fs))), some (es, fz) => some ((e, .box fs) :: es, fz)
    | _, _ => none

def opFn (P : Program) (σ : St) (pc : Cond) (o : Oper) : Option (E × Ty × List (Nat × List SC)) :=
  match o.op with
  | .makeFunc (.func f) first captured =>
    if first.toList.isEmpty then
      match capsE P σ pc captured.toList with
      | some (es, fz) => some (.un (.fnc f) (.ofL (es.map (·.1))), .fn f (.ofL (es.map (·.2))), fz)
      | none => none
    else none
  | _ => none

def argsE (P : Program) (σ : St) (pc : Cond) : List Operand → List TypeId → Option (List (E × Ty))
  | [], [] => some []
  | x :: r, t :: ts => match getD_ P σ pc x t, argsE P σ pc r ts with
    | some e, some es => some (e :: es)
    | _, _ => none
  | _, _ => none

def cellSC (own : Bool) (p : Nat) (e : E) : RCell → SC
  | (t, none) => .dat e t
  | (t, some (j, _)) => if own then (if exN j then .xo (p, j) t else .own (p, j) e t) else .dat e (.list t)
def cellsSC (own : Bool) (p : Nat) (e : E) : Nat → List RCell → List SC
  | _, [] => []
  | j, c :: r => cellSC own p (.un (.cell j) e) c :: cellsSC own p e (j + 1) r
def compSC (own : Bool) (p : Nat) (e : E) (c : Bool × List RCell) : Bool × List SC :=
  (c.1, if c.1 then cellsSC own p e 0 c.2 else c.2.map (cellSC own p e))
def compsSC (own : Bool) (p : Nat) (e : E) : Nat → List (Bool × List RCell) → List (Bool × List SC)
  | _, [] => []
  | j, c :: r => compSC own p (.un (.cell j) e) c :: compsSC own p e (j + 1) r
def resSVx (own : Bool) (p : Nat) (e : E) : List (Bool × List RCell) → SV
  | [c] => match compSC own p e c with
    | (true, l) => .agg l
    | (false, l) => .one (l.headD (.nils .nil))
  | cs => .tup (compsSC own p e 0 cs)
def resSV (own : Bool) (p : Nat) (res : List (Bool × List RCell)) : SV := resSVx own p (.var p) res

def cellLive (p : Nat) (e : E) : RCell → List (Tag × Option (E × TypeId × Ty))
  | (_, none) => []
  | (t, some (j, T)) => [((p, j), some (e, T, t))]
def cellsLive (p : Nat) (e : E) : Nat → List RCell → List (Tag × Option (E × TypeId × Ty))
  | _, [] => []
  | j, c :: r => cellLive p (.un (.cell j) e) c ++ cellsLive p e (j + 1) r
def compLive (p : Nat) (e : E) (c : Bool × List RCell) : List (Tag × Option (E × TypeId × Ty)) :=
  if c.1 then cellsLive p e 0 c.2 else c.2.flatMap (cellLive p e)
def compsLive (p : Nat) (e : E) : Nat → List (Bool × List RCell) → List (Tag × Option (E × TypeId × Ty))
  | _, [] => []
  | j, c :: r => compLive p (.un (.cell j) e) c ++ compsLive p e (j + 1) r
def resLivex (p : Nat) (e : E) : List (Bool × List RCell) → List (Tag × Option (E × TypeId × Ty))
  | [c] => compLive p e c
  | cs => compsLive p e 0 cs
def resLive (p : Nat) (res : List (Bool × List RCell)) : List (Tag × Option (E × TypeId × Ty)) := resLivex p (.var p) res
/-- No slices of their own kind among the results. -/
def noEx (res : List (Bool × List RCell)) : Bool := res.all fun c => c.2.all fun x => match x.2 with | some (j, _) => !exN j | none => true
def ownIdx (res : List (Bool × List RCell)) : List Nat := res.flatMap fun c => c.2.filterMap fun x => x.2.map (·.1)

/-- Results as slices of their own kind. -/
def exCell : RCell → RCell
  | (t, some (j, T)) => (t, some (j + 1000, T))
  | c => c
def exRes (res : List (Bool × List RCell)) : List (Bool × List RCell) := res.map fun c => (c.1, c.2.map exCell)
def exSig (s : Sig) : Sig := { s with res := exRes s.res }
def Ty.bare : Ty → Bool
  | .int _ | .bool | .str => true
  | _ => false
/-- Results that lean on nothing but what the call has made. -/
def RCell.bare : RCell → Bool
  | (t, none) => t.bare
  | (t, some _) => t.cells.all Ty.bare
def bareRes (res : List (Bool × List RCell)) : Bool := res.all fun c => c.2.all RCell.bare
/-- A function's signature, as a call takes it: its results as slices of their own kind, where that is asked. -/
def exDst (cs : Tbl) : Option Nat → Bool
  | some d => cs.ex.contains d
  | none => false
def sigOf (cs : Tbl) (dst : Option Nat) (k : Nat) : Option Sig :=
  match lk cs.l k with
  | some s => if exDst cs dst = true ∧ s.ob = none ∧ bareRes s.res = true then some (exSig s) else some s
  | none => none

/-- A call of a function that has a contract: which, its arguments. -/
def opCall (P : Program) (cs : Tbl) (σ : St) (pc : Cond) (o : Oper) : Option (Nat × E × Sig) :=
  match o.op with
  | .call { callee := .value f, args, argTypes } =>
    match getV P σ pc f 0, argsE P σ pc args.toList argTypes.toList with
    | some (.one (.dat fe (.fn k fs))), some es =>
      match sigOf cs o.dst k with
      | some sig =>
        if sig.ob.isNone = true ∧ es.map (·.2) ++ fs.toL = sig.params ∧ (ownIdx sig.res).Nodup ∧ (sig.res.all fun c => c.1 || c.2.length == 1) = true ∧ (pc.isEmpty || noEx sig.res) = true then
          some (k, .ofL (es.map (·.1) ++ (cellsE fe 0 fs.toL).map (·.1)), sig)
        else none
      | none => none
    | _, _ => none
  | _ => none

def nodupTags : List (Option Tag) → Bool
  | [] => true
  | none :: r => nodupTags r
  | some g :: r => !r.contains (some g) && nodupTags r

abbrev OwnL := List (Nat × Option Tag)
def retCell (σ : St) : RCell → SC → Option (E × OwnL)
  | (t, none), c => match asData c with
    | some (e, t') => if t' = t then some (e, []) else none
    | none => none
  | (t, some (j, T)), c => match c with
    | .nils t' => if t' = t ∧ 0 < t.cells.length then some (.nil, [(j, none)]) else none
    | .own g _ t' => match σ.live g with
      | some (e, T', t'') => if t' = t ∧ t'' = t ∧ T' = T ∧ 0 < t.cells.length ∧ g.ex = false ∧ exN j = false then some (e, [(j, some g)]) else none
      | none => none
    | .xo g t' => match σ.live g with
      | some (e, T', t'') => if t' = t ∧ t'' = t ∧ T' = T ∧ 0 < t.cells.length ∧ g.ex = true ∧ exN j = true then some (e, [(j, some g)]) else none
      | none => none
    | _ => none
def retCells (σ : St) : List RCell → List SC → Option (List E × OwnL)
  | [], [] => some ([], [])
  | r :: rs, c :: cs => match retCell σ r c, retCells σ rs cs with
    | some (e, l), some (es, ls) => some (e :: es, l ++ ls)
    | _, _ => none
  | _, _ => none
def ownOkB (l : OwnL) : Bool := nodupTags (l.map (·.2)) && decide ((l.map (·.1)).Nodup)

def rcTy : RCell → Ty
  | (t, none) => t
  | (t, some _) => .list t
def rcIdx (rc : List RCell) : List Nat := rc.filterMap fun x => x.2.map (·.1)
def Ob.inIdx (ob : Ob) : List Nat := ob.objs.flatMap rcIdx
def outIdx (sig : Sig) (ob : Ob) : List Nat := ownIdx sig.res ++ ob.outs.flatMap rcIdx

/-- The arguments of a call that is handed objects: its data; the objects' numbers. -/
def oArgs (P : Program) (σ : St) (pc : Cond) : List Bool → List Operand → List TypeId → Option (List (E × Ty) × List Nat)
  | [], [], [] => some ([], [])
  | false :: sh, x :: r, t :: ts => match getD_ P σ pc x t, oArgs P σ pc sh r ts with
    | some e, some (es, ids) => some (e :: es, ids)
    | _, _ => none
  | true :: sh, x :: r, t :: ts => match getV P σ pc x t, oArgs P σ pc sh r ts with
    | some (.one (.adr id 0)), some (es, ids) => some (es, id :: ids)
    | _, _ => none
  | _, _, _ => none
/-- What the objects hold. -/
def oObjs (σ : St) : List (List RCell) → List Nat → Option (List (List E) × OwnL)
  | [], [] => some ([], [])
  | rc :: r, id :: ids => match σ.hp id with
    | some (false, cs) => match retCells σ rc cs, oObjs σ r ids with
      | some (es, l), some (ess, ls) => some (es :: ess, l ++ ls)
      | _, _ => none
    | _ => none
  | _, _ => none
/-- The objects behind the call. -/
def oHp (p : Nat) : Nat → List Nat → List (List RCell) → List (Nat × Option (Bool × List SC))
  | k, id :: ids, rc :: r => (id, some (false, cellsSC true p (.un (.cell k) (.var p)) 0 rc)) :: oHp p (k + 1) ids r
  | _, _, _ => []
def oLive (p : Nat) : Nat → List (List RCell) → List (Tag × Option (E × TypeId × Ty))
  | k, rc :: r => cellsLive p (.un (.cell k) (.var p)) 0 rc ++ oLive p (k + 1) r
  | _, [] => []
def rcSc : RCell → Bool
  | (t, none) => t.scalar
  | _ => true

structure OCall where
  k : Nat
  args : E
  sig : Sig
  ob : Ob
  ids : List Nat
  own : OwnL

def opOCall (P : Program) (cs : Tbl) (σ : St) (pc : Cond) (o : Oper) : Option OCall :=
  match o.op with
  | .call { callee := .value f, args, argTypes } =>
    match getV P σ [] f 0 with
    | some (.one (.dat _ (.fn k .nil))) =>
      match lk cs.l k with
      | some sig =>
        match sig.ob with
        | some ob =>
          match oArgs P σ pc ob.shape args.toList argTypes.toList with
          | some (es, ids) =>
            match oObjs σ ob.objs ids with
            | some (ess, l) =>
              if es.map (·.2) ++ ob.objs.flatten.map rcTy = sig.params ∧ ids.Nodup ∧ ownOkB l = true ∧ (outIdx sig ob).Nodup ∧ (sig.res.all fun c => c.1 || c.2.length == 1) = true ∧
                  ob.outs.length = ids.length + ob.fresh.toNat ∧ (ob.outs.all fun rc => rc.all rcSc) = true ∧ ids.length = ob.objs.length then
                some ⟨k, .ofL (es.map (·.1) ++ ess.flatten), sig, ob, ids, l⟩
              else none
            | none => none
          | none => none
        | none => none
      | none => none
    | _ => none
  | _ => none
def OCall.eff (x : OCall) (p : Nat) (dst : Option Nat) : Eff :=
  ⟨dst, ([], if x.ob.fresh then .one (.adr p 0) else resSVx true p (.un (.cell 0) (.var p)) x.sig.res), oHp p 1 (x.ids ++ if x.ob.fresh then [p] else []) x.ob.outs,
    (x.own.filterMap fun y => y.2.map fun g => (g, none)) ++ (if x.ob.fresh then [] else resLivex p (.un (.cell 0) (.var p)) x.sig.res) ++ oLive p 1 x.ob.outs, x.ids, [.call p x.k x.args []]⟩

/-- An append onto an owned slice, or onto nil: which is used up; the new slice; its element's type. -/
def opAppend (P : Program) (σ : St) (pc : Cond) (o : Oper) : Option (Option Tag × E × E × TypeId × Ty × Nat) :=
  match o.op with
  | .call { callee := .builtin .append, args, argTypes } =>
    match args.toList, argTypes.toList with
    | [s, x], [t, t'] =>
      match P.underlying t, getV P σ pc s t, getD_ P σ pc x t with
      | some (.slice el), some sv, some (e2, .list u) =>
        match P.info? el, tyV P el with
        | some ie, some u' =>
          if t = t' ∧ u = u' ∧ u.cells.length = ie.size ∧ 0 < ie.size ∧ (u.cells.all Ty.scalar) = true ∧ ((ie.zero.map fun z => z.cells.size) = some ie.size) ∧ ie.bytes = u.bytes then
            match sv with
            | .one (.nils v) => if v = u then some (none, .nil, e2, el, u, ie.bytes) else none
            | .one (.own g _ v) => match σ.live g with
              | some (e1, T, v') => if v = u ∧ v' = u ∧ T = el ∧ g.ex = false then some (some g, e1, e2, el, u, ie.bytes) else none
              | none => none
            | _ => none
          else none
        | _, _ => none
      | _, _, _ => none
    | _, _ => none
  | _ => none

/-- An append of one element or more onto a slice with no room behind it. -/
def opAppClip (P : Program) (σ : St) (o : Oper) : Option (E × E × TypeId × Ty × Nat) :=
  match o.op with
  | .call { callee := .builtin .append, args, argTypes } =>
    match args.toList, argTypes.toList with
    | [s, x], [t, t'] =>
      match P.underlying t, getV P σ [] s t, getD_ P σ [] x t with
      | some (.slice el), some (.one (.clip e1 v)), some (e2, .list u) =>
        match P.info? el, tyV P el with
        | some ie, some u' =>
          if t = t' ∧ u = u' ∧ u.cells.length = ie.size ∧ 0 < ie.size ∧ (u.cells.all Ty.scalar) = true ∧ ((ie.zero.map fun z => z.cells.size) = some ie.size) ∧ ie.bytes = u.bytes ∧ v = u then some (e1, e2, el, u, ie.bytes) else none
        | _, _ => none
      | _, _, _ => none
    | _, _ => none
  | _ => none

def SC.isXo : SC → Bool
  | .xo .. => true
  | _ => false
def SV.hasXo : SV → Bool
  | .one c => c.isXo
  | .agg l => l.any SC.isXo
  | .tup _ => false
/-- What a slice of its own kind holds. -/
def liveX (σ : St) (g : Tag) (t : Ty) : Option (E × TypeId) :=
  match σ.live g with
  | some (e, T, t') => if t' = t ∧ g.ex = true ∧ 0 < t.cells.length then some (e, T) else none
  | none => none
/-- An element with some of its cells new. -/
def setElE (u : Ty) (el : E) (off : Nat) (es : List E) : Option E :=
  match u, es with
  | .agg fs, es => some (.un .agg (.ofL (((cellsE el 0 fs.toL).map (·.1)).take off ++ es ++ ((cellsE el 0 fs.toL).map (·.1)).drop (off + es.length))))
  | u, [x] => if off = 0 ∧ u.scalar = true then some x else none
  | _, _ => none
def setLE (e i x : E) : E := .bin .cat (.bin .take e i) (.cons x (.bin .drop (.bin .drop e i) (.kint .i64 1)))

def xLoad (P : Program) (σ : St) (o : Oper) : Option Eff :=
  match o.op with
  | .load t x =>
    if (P.underlying t).isNone then none else
    match getV P σ [] x t with
    | some (.one (.xadr g i u off)) => match liveX σ g u with
      | some (e, T) => (elemLoad P t (.bin .idx e i) u off).map fun s => ⟨o.dst, ([], s.1), [], [(g, some (e, T, u))], [], []⟩
      | none => none
    | _ => none
  | _ => none
def xStore (P : Program) (σ : St) (o : Oper) : Option Eff :=
  match o.op with
  | .store t x y =>
    match getV P σ [] x t, ((getV P σ [] y t).bind asCells).bind asDatas, sizeT P t with
    | some (.one (.xadr g i u off)), some (es, ts), some n => match liveX σ g u with
      | some (e, T) =>
        if es.length = n ∧ off + n ≤ u.cells.length ∧ ts = (u.cells.drop off).take n ∧ (ts.all Ty.scalar) = true ∧ o.dst = none then
          (setElE u (.bin .idx e i) off es).map fun x => ⟨none, ([], .agg []), [], [(g, some (setLE e i x, T, u))], [], []⟩
        else none
      | none => none
    | _, _, _ => none
  | _ => none
def xLen (P : Program) (σ : St) (o : Oper) : Option Eff :=
  match o.op with
  | .call { callee := .builtin .len, args, argTypes } =>
    match args.toList, argTypes[0]? with
    | [x], some t => match P.underlying t, getV P σ [] x t with
      | some (.slice _), some (.one (.xo g u)) => match liveX σ g u with
        | some (e, T) => some ⟨o.dst, ([], .one (.dat (.un .len e) (.int .i64))), [], [(g, some (e, T, u))], [], []⟩
        | none => none
      | _, _ => none
    | _, _ => none
  | _ => none
def xIndex (P : Program) (σ : St) (o : Oper) : Option Eff :=
  match o.op with
  | .indexAddr t x i =>
    match P.underlying t, getV P σ [] x t, getD_ P σ [] i t with
    | some (.slice el), some (.one (.xo g u)), some (ie, .int k) => match liveX σ g u with
      | some (e, T) =>
        if sizeT P el = some u.cells.length then
          some ⟨o.dst, ([], .one (.xadr g ie u 0)), [], [(g, some (e, T, u))], [], [.obl [] (.bin .and (.bin .le (.kint k 0) ie) (.bin .lt ie (.un .len e)))]⟩
        else none
      | none => none
    | _, _, _ => none
  | _ => none
/-- An append onto a slice of its own kind, or onto nil. -/
def opAppX (P : Program) (σ : St) (o : Oper) : Option (Option Tag × E × E × TypeId × Ty × Nat) :=
  match o.op with
  | .call { callee := .builtin .append, args, argTypes } =>
    match args.toList, argTypes.toList with
    | [s, x], [t, t'] =>
      match P.underlying t, getV P σ [] s t, getD_ P σ [] x t with
      | some (.slice el), some sv, some (e2, .list u) =>
        match P.info? el, tyV P el with
        | some ie, some u' =>
          if t = t' ∧ u = u' ∧ u.cells.length = ie.size ∧ 0 < ie.size ∧ (u.cells.all Ty.scalar) = true ∧ ((ie.zero.map fun z => z.cells.size) = some ie.size) ∧ ie.bytes = u.bytes then
            match sv with
            | .one (.nils v) => if v = u then some (none, .nil, e2, el, u, ie.bytes) else none
            | .one (.xo g v) => match liveX σ g v with
              | some (e1, T) => if v = u ∧ T = el then some (some g, e1, e2, el, u, ie.bytes) else none
              | none => none
            | _ => none
          else none
        | _, _ => none
      | _, _, _ => none
    | _, _ => none
  | _ => none
def xAppend (P : Program) (σ : St) (p : Nat) (o : Oper) : Option Eff :=
  match opAppX P σ o with
  | some (g, e1, e2, T, t, b) => some ⟨o.dst, ([], .one (.xo (p, 1000) t)), [], (match g with | some g => [(g, none)] | none => []) ++ [((p, 1000), some (.bin .cat e1 e2, T, t))], [], [.room [] (.bin .cat e1 e2) b]⟩
  | none => none
/-- A slice literal, of its own kind. -/
def xLit (P : Program) (σ : St) (p : Nat) (o : Oper) : Option Eff :=
  match opLit P σ [] o with
  | some (e, T, t, _) => some ⟨o.dst, ([], .one (.xo (p, 1000) t)), [], [((p, 1000), some (e, T, t))], [], []⟩
  | none => none

/-- Arguments, of which some are slices of their own kind. -/
def asDataX (σ : St) : SC → Option ((E × Ty) × List (Tag × Option (E × TypeId × Ty)))
  | .xo g t => match liveX σ g t with
    | some (e, T) => some ((e, .list t), [(g, some (e, T, t))])
    | none => none
  | c => (asData c).map fun x => (x, [])
def asDatasX (σ : St) : List SC → Option ((List E × List Ty) × List (Tag × Option (E × TypeId × Ty)))
  | [] => some (([], []), [])
  | c :: r => match asDataX σ c, asDatasX σ r with
    | some ((e, t), l), some ((es, ts), ls) => some ((e :: es, t :: ts), l ++ ls)
    | _, _ => none
def asDataVX (σ : St) : SV → Option ((E × Ty) × List (Tag × Option (E × TypeId × Ty)))
  | .one c => asDataX σ c
  | .agg l => match asDatasX σ l with
    | some ((es, ts), ls) => some ((.un .agg (.ofL es), .agg (.ofL ts)), ls)
    | none => none
  | .tup _ => none
def argsX (P : Program) (σ : St) (pc : Cond) : List Operand → List TypeId → Option (List (E × Ty) × List (Tag × Option (E × TypeId × Ty)))
  | [], [] => some ([], [])
  | x :: r, t :: ts => match (getV P σ pc x t).bind (asDataVX σ), argsX P σ pc r ts with
    | some (e, l), some (es, ls) => some (e :: es, l ++ ls)
    | _, _ => none
  | _, _ => none
def xCall (P : Program) (cs : Tbl) (σ : St) (p : Nat) (o : Oper) : Option Eff :=
  match o.op with
  | .call { callee := .value f, args, argTypes } =>
    match getV P σ [] f 0, argsX P σ [] args.toList argTypes.toList with
    | some (.one (.dat _ (.fn k .nil))), some (es, l) =>
      match lk cs.l k with
      | some sig =>
        if sig.ob.isNone = true ∧ es.map (·.2) = sig.params ∧ (ownIdx sig.res).Nodup ∧ (sig.res.all fun c => c.1 || c.2.length == 1) = true ∧ (sig.res.all fun c => c.2.all RCell.bare) = true then
          some ⟨o.dst, ([], resSV true p sig.res), [], l ++ resLive p sig.res, [], [.call p k (.ofL (es.map (·.1))) []]⟩
        else none
      | none => none
    | _, _ => none
  | _ => none
/-- The same, guarded: results are numbers, and the like. -/
def xCallG (P : Program) (cs : Tbl) (σ : St) (pc : Cond) (p : Nat) (o : Oper) : Option Eff :=
  match o.op with
  | .call { callee := .value f, args, argTypes } =>
    match getV P σ [] f 0, argsX P σ pc args.toList argTypes.toList with
    | some (.one (.dat _ (.fn k .nil))), some (es, l) =>
      match lk cs.l k with
      | some sig =>
        if sig.ob.isNone = true ∧ es.map (·.2) = sig.params ∧ ownIdx sig.res = [] ∧ noEx sig.res = true ∧ (sig.res.all fun c => c.1 || c.2.length == 1) = true ∧ (sig.res.all fun c => c.2.all RCell.bare) = true then
          some ⟨o.dst, (pc, resSV false p sig.res), [], l, [], [.call p k (.ofL (es.map (·.1))) pc]⟩
        else none
      | none => none
    | _, _ => none
  | _ => none

def argXo (P : Program) (σ : St) (x : Operand × TypeId) : Bool := match getV P σ [] x.1 x.2 with | some s => s.hasXo | none => false
/-- A guarded call that is handed slices of their own kind. -/
def argXoG (P : Program) (σ : St) (pc : Cond) (x : Operand × TypeId) : Bool := match getV P σ pc x.1 x.2 with | some s => s.hasXo | none => false
def xKindG (P : Program) (σ : St) (pc : Cond) (o : Oper) : Bool :=
  match o.op with
  | .call { callee := .value _, args, argTypes } => (args.toList.zip argTypes.toList).any (argXoG P σ pc)
  | _ => false
/-- Operations on slices of their own kind: told by their operands. -/
def xKind (P : Program) (cs : Tbl) (σ : St) (o : Oper) : Nat :=
  match o.op with
  | .load t x => match getV P σ [] x t with | some (.one (.xadr ..)) => 1 | _ => 0
  | .store t x _ => match getV P σ [] x t with | some (.one (.xadr ..)) => 2 | _ => 0
  | .indexAddr t x _ => match getV P σ [] x t with | some (.one (.xo ..)) => 4 | _ => 0
  | .call { callee := .builtin .len, args, argTypes } => match args.toList, argTypes.toList with
    | [x], [t] => match getV P σ [] x t with | some (.one (.xo ..)) => 3 | _ => 0
    | _, _ => 0
  | .call { callee := .builtin .append, args, argTypes } => match args.toList, argTypes.toList with
    | x :: _, t :: _ => match getV P σ [] x t with
      | some (.one (.xo ..)) => 5
      | some (.one (.nils _)) => match o.dst with | some d => if cs.ex.contains d then 5 else 0 | none => 0
      | _ => 0
    | _, _ => 0
  | .buildSlice .. => match o.dst with | some d => if cs.ex.contains d then 6 else 0 | none => 0
  | .call { callee := .value _, args, argTypes } => if (args.toList.zip argTypes.toList).any (argXo P σ) then 7 else 0
  | _ => 0
def effX (P : Program) (cs : Tbl) (σ : St) (p : Nat) (o : Oper) : Nat → Option Eff
  | 1 => xLoad P σ o
  | 2 => xStore P σ o
  | 3 => xLen P σ o
  | 4 => xIndex P σ o
  | 5 => xAppend P σ p o
  | 6 => xLit P σ p o
  | _ => xCall P cs σ p o

def opKind : Op → Nat
  | .alloc _ | .box .. => 1
  | .store .. => 2
  | .makeFunc .. => 3
  | .call { callee := .value _, .. } => 4
  | .call { callee := .builtin .append, .. } => 5
  | .buildSlice .. => 6
  | _ => 0

def effOp0 (P : Program) (cs : Tbl) (ops : Array Oper) (σ : St) (p : Nat) (o : Oper) : Option Eff :=
  match guardOf ops σ o with
  | none => none
  | some pc =>
    match opKind o.op with
    | 1 => match opNew P σ pc o with
      | some l => if pc = [] ∧ l.all SC.scalar = true then some ⟨o.dst, (pc, .one (.adr p 0)), [(p, some (false, l))], [], [], []⟩ else none
      | none => none
    | 2 => match opStore P σ pc o with
      | some (id, l) => if pc = [] ∧ l.all SC.scalar = true ∧ o.dst = none then some ⟨none, ([], .agg []), [(id, some (false, l))], [], [id], []⟩ else none
      | none => none
    | 3 => match opFn P σ pc o with
      | some (e, t, fz) => some ⟨o.dst, (pc, .one (.dat e t)), fz.map fun x => (x.1, some (true, x.2)), [], fz.map (·.1), []⟩
      | none => none
    | 4 => match opCall P cs σ pc o with
      | some (k, e, sig) => some ⟨o.dst, (pc, resSV pc.isEmpty p sig.res), [], if pc.isEmpty then resLive p sig.res else [], [], [.call p k e pc]⟩
      | none => match opOCall P cs σ [] o with
        | some x => if pc = [] then some (x.eff p o.dst) else none
        | none => none
    | 5 => match opAppClip P σ o with
      | some (e1, e2, T, t, b) =>
        if pc = [] then some ⟨o.dst, ([], .one (.own (p, 0) (.bin .cat e1 e2) t)), [], [((p, 0), some (.bin .cat e1 e2, T, t))], [], [.room [] (.bin .cat e1 e2) b, .obl [] (.bin .lt (.kint .i64 0) (.un .len e2))]⟩ else none
      | none => match opAppend P σ pc o with
        | some (g, e1, e2, T, t, b) =>
          if pc = [] then
            some ⟨o.dst, (pc, .one (.own (p, 0) (.bin .cat e1 e2) t)), [], (match g with | some g => [(g, none)] | none => []) ++ [((p, 0), some (.bin .cat e1 e2, T, t))], [], [.room pc (.bin .cat e1 e2) b]⟩
          else none
        | none => none
    | 6 => match opLit P σ pc o with
      | some (e, T, t, _) =>
        if pc.isEmpty then some ⟨o.dst, (pc, .one (.own (p, 0) e t)), [], [((p, 0), some (e, T, t))], [], []⟩
        else some ⟨o.dst, (pc, .one (.dat e (.list t))), [], [], [], []⟩
      | none => none
    | _ => match opPlain P σ pc o with
      | some ((s, is), rd) => some ⟨o.dst, (pc, s), [], [], rd, is⟩
      | none => none

def effOp (P : Program) (cs : Tbl) (ops : Array Oper) (σ : St) (p : Nat) (o : Oper) : Option Eff :=
  match o.guard, xKind P cs σ o with
  | none, k + 1 => effX P cs σ p o (k + 1)
  | some _, _ => match guardOf ops σ o with
    | some pc => if xKindG P σ pc o then xCallG P cs σ pc p o else effOp0 P cs ops σ p o
    | none => none
  | _, _ => effOp0 P cs ops σ p o

/-- What leans on new blocks alone, where all slices that were made do. -/
def freshSC : SC → Bool
  | .dat _ t => t.bare
  | .nils _ => true
  | .own .. => true
  | _ => false
def freshArg : SV → Bool
  | .one (.own ..) => true
  | .one (.nils _) => true
  | .one (.dat _ (.list u)) => u.cells.all Ty.bare
  | .one (.clip _ u) => u.cells.all Ty.bare
  | _ => false
/-- A slice literal's cells. -/
def litSCs (P : Program) (σ : St) (pc : Cond) (o : Oper) : Option (List SC) :=
  match o.op with
  | .buildSlice t len parts =>
    match P.underlying t with
    | some (.slice el) =>
      match P.info? el, flat P fuelF el, partsSC P σ pc (fun _ => el) parts.toList with
      | some ie, some ts, some ps =>
        match ie.zero.bind fun z => zeroSCs ts z.cells.toList with
        | some zs => fillSC (fun i => some (i * ie.size, ie.size)) ((List.range (len * ie.size)).map fun j => zs.getD (j % zs.length) (.nils .nil)) ps
        | none => none
      | _, _, _ => none
    | _ => none
  | _ => none
/-- An own result that leans on the call's own blocks alone: told by its number. -/
def frN (j : Nat) : Bool := decide (500 ≤ j) && decide (j < 1000)
def RCell.fr : RCell → Bool
  | (t, none) => t.bare
  | (t, some (j, _)) => t.cells.all Ty.bare || frN j
def frRes (res : List (Bool × List RCell)) : Bool := res.all fun c => c.2.all RCell.fr
def noFr (res : List (Bool × List RCell)) : Bool := (ownIdx res).all fun j => !frN j
def frOk (P : Program) (cs : Tbl) (σ : St) (pc : Cond) (o : Oper) : Bool :=
  match o.op with
  | .call { callee := .value f, .. } => match getV P σ pc f 0 with
    | some (.one (.dat _ (.fn k _))) => match sigOf cs o.dst k with
      | some sig => frRes sig.res && sig.ob.isNone && noEx sig.res
      | none => false
    | _ => false
  | .call { callee := .builtin .append, args, argTypes } => match args.toList, argTypes.toList with
    | [s, x], [_, t'] => match getV P σ pc s t', getV P σ pc x t' with
      | some (.one (.clip _ u)), _ => u.cells.all Ty.bare
      | _, some sv => freshArg sv
      | _, _ => false
    | _, _ => false
  | .buildSlice .. => match litSCs P σ pc o with
    | some cs => cs.all freshSC
    | none => false
  | _ => true
/-- What an operation does; where what is made is to lean on new blocks alone: if it does. -/
def effOpF (P : Program) (cs : Tbl) (ops : Array Oper) (σ : St) (p : Nat) (o : Oper) : Option Eff :=
  match cs.fr with
  | 0 => effOp P cs ops σ p o
  | 1 => match guardOf ops σ o with
    | some pc => if frOk P cs σ pc o then effOp0 P cs ops σ p o else none
    | none => none
  | _ => if opKind o.op < 3 then effOp0 P cs ops σ p o else none

/-- What a call gives back, in the callee's words. -/
structure OwnD (ex : Bool) (w : World) (base : Nat) (S : Foot) (T : TypeId) (t : Ty) (v : Value) (d : D) : Prop where
  has : Has (.list t) d
  sz : 0 < t.cells.length
  own : ∃ xs l, d = .list l ∧ w.ownsRow base T t.cells.length v l.length xs ∧ (∀ b, v.ownBlock = some b → ∀ o, S b o ↔ ex = false ∧ o < xs.length) ∧
    ∀ (i : Nat) d (j : Nat) v c, l[i]? = some d → d.cells[j]? = some c → xs[i * t.cells.length + j]? = some v → Rep w S v c

def CellOk (w : World) (base : Nat) (S : Foot) (τ : Nat → Value) : RCell → Value → D → Prop
  | (t, none), v, d => Rep w S v d ∧ Has t d
  | (t, some (j, T)), v, d => v = τ j ∧ OwnD (exN j) w base S T t (τ j) d
def CompOk (w : World) (base : Nat) (S : Foot) (τ : Nat → Value) (c : Bool × List RCell) (v : Value) (d : D) : Prop :=
  if c.1 then ∃ (vs : List Value) (ds : List D), v = .agg vs.toArray ∧ d = .agg ds ∧ vs.length = c.2.length ∧ ds.length = c.2.length ∧
    ∀ (i : Nat) x u y, c.2[i]? = some x → vs[i]? = some u → ds[i]? = some y → CellOk w base S τ x u y
  else ∃ x, c.2 = [x] ∧ CellOk w base S τ x v d
def ResOk (w : World) (base : Nat) (S : Foot) (τ : Nat → Value) (res : List (Bool × List RCell)) (v : Value) (d : D) : Prop :=
  (∃ c, res = [c] ∧ CompOk w base S τ c v d) ∨
  (res.length ≠ 1 ∧ ∃ (vs : List Value) (ds : List D), v = .tuple vs.toArray ∧ d = .tup ds ∧ vs.length = res.length ∧ ds.length = res.length ∧
    ∀ (i : Nat) x u y, res[i]? = some x → vs[i]? = some u → ds[i]? = some y → CompOk w base S τ x u y)

/-- An object: what its cells hold. -/
def ObjOk (w : World) (S : Foot) (τ : Nat → Value) (rc : List RCell) (b : Nat) (cells : List D) : Prop :=
  ∃ (vals : List Value) (T : TypeId), w.heap[b]? = some (.cells vals.toArray T (0, 0)) ∧ vals.length = rc.length ∧ cells.length = rc.length ∧
    (∀ (i : Nat) r v d, rc[i]? = some r → vals[i]? = some v → cells[i]? = some d → CellOk w 0 S τ r v d) ∧ ∀ o, ¬ S b o
/-- The arguments' values: data, and pointers to objects, one behind the other. -/
def ArgsO (w : World) (S : Foot) (β : Nat → Nat) : List Bool → Nat → List Value → List D → Prop
  | [], _, [], [] => True
  | true :: sh, o, v :: vs, ds => v = .pointer (some ⟨β o, 0, none⟩) ∧ ArgsO w S β sh (o + 1) vs ds
  | false :: sh, o, v :: vs, d :: ds => Rep w S v d ∧ ArgsO w S β sh o vs ds
  | _, _, _, _ => False
/-- The blocks that a call may write: its objects', and what these own. -/
def MuO (ob : Ob) (β : Nat → Nat) (τ : Nat → Value) (b : Nat) : Prop := (∃ o, o < ob.objs.length ∧ b = β o) ∨ ∃ j, j ∈ ob.inIdx ∧ (τ j).ownBlock = some b
/-- What a call is handed. -/
structure ObjIn (w : World) (S : Foot) (ob : Ob) (β : Nat → Nat) (τ : Nat → Value) (vs : List Value) (dd : List D) (oo : List (List D)) : Prop where
  lt : ∀ b o, S b o → b < w.heap.size
  args : ArgsO w S β ob.shape 0 vs dd
  len : oo.length = ob.objs.length
  objs : ∀ (o : Nat) rc cells, ob.objs[o]? = some rc → oo[o]? = some cells → ObjOk w S τ rc (β o) cells
  inj : ∀ i j, i < ob.objs.length → j < ob.objs.length → β i = β j → i = j
  own : ∀ j k b, j ∈ ob.inIdx → k ∈ ob.inIdx → (τ j).ownBlock = some b → (τ k).ownBlock = some b → j = k
  ownbox : ∀ j o b, j ∈ ob.inIdx → o < ob.objs.length → (τ j).ownBlock = some b → b ≠ β o
def obAt (ob : Ob) (β : Nat → Nat) (βn : Nat) (o : Nat) : Nat := if o < ob.objs.length then β o else βn
/-- What it gives back. -/
structure ObjOut (w : World) (S : Foot) (sig : Sig) (ob : Ob) (β : Nat → Nat) (τ : Nat → Value) (v : Value) (d : D) (w' : World) (S' : Foot) (τ' : Nat → Value) (βn : Nat) : Prop where
  below : BelowX (MuO ob β τ) w w'
  foot : ∀ b o, S b o → S' b o
  lt : ∀ b o, S' b o → b < w'.heap.size
  new : ∀ b o, S' b o → S b o ∨ w.heap.size ≤ b ∨ MuO ob β τ b
  keep : ∀ b o, S b o → w'.cell? ⟨b, o, none⟩ = w.cell? ⟨b, o, none⟩
  res : ∃ (d0 : D) (outs : List (List D)), d = .tup (d0 :: outs.map .agg) ∧ outs.length = ob.outs.length ∧
    (if ob.fresh then v = .pointer (some ⟨βn, 0, none⟩) ∧ w.heap.size ≤ βn else ResOk w' 0 S' τ' sig.res v d0) ∧
    ∀ (o : Nat) rc cells, ob.outs[o]? = some rc → outs[o]? = some cells → ObjOk w' S' τ' rc (obAt ob β βn o) cells
  ownnew : ∀ j b, j ∈ outIdx sig ob → (τ' j).ownBlock = some b → w.heap.size ≤ b ∨ MuO ob β τ b
  own : ∀ j k b, j ∈ outIdx sig ob → k ∈ outIdx sig ob → (τ' j).ownBlock = some b → (τ' k).ownBlock = some b → j = k
  ownbox : ∀ j o b, j ∈ outIdx sig ob → o < ob.outs.length → (τ' j).ownBlock = some b → b ≠ obAt ob β βn o

/-- A slice of integers, behind a call that has written over it: what the call gave, where the slice lies now, what it holds. -/
structure PlOut (w : World) (T : TypeId) (v : Value) (unit : Bool) (ys : List Int) (u v' : Value) (w' : World) : Prop where
  res : if unit then v' = v else u = v'
  own : w'.ownsRow 0 T 1 v' ys.length (ys.map (Value.int .i64))
  blk : v'.ownBlock = v.ownBlock
  below : BelowX (fun b => v.ownBlock = some b) w w'

/-- A function's contract: it gives Φ of what its arguments read as; whatever was there stays as it was, but for the objects that it is handed. -/
structure PureFn (P : Program) (f : Nat) (sig : Sig) (Pre : List D → Prop) (Φ : List D → D) : Prop where
  enter : ∀ (args : Array Value) (w : World), (callFunc f args).run P w = .ok (.enter f args) w
  calls : sig.ob = none → ∀ (w : World) (S : Foot) (vs : List Value) (ds : List D), (∀ b o, S b o → b < w.heap.size) → vs.length = ds.length → (∀ (i : Nat) v d, vs[i]? = some v → ds[i]? = some d → Rep w S v d) →
    HasL (.ofL sig.params) ds → Pre ds →
    Calls P f vs.toArray w fun e w' => ∃ v S' τ, e = .returned v ∧ Below w.heap.size w w' ∧ (∀ b o, S b o → S' b o) ∧ (∀ b o, S' b o → b < w'.heap.size) ∧ (∀ b o, S' b o → S b o ∨ w.heap.size ≤ b) ∧
      ResOk w' 0 S' τ sig.res v (Φ ds) ∧ (∀ j b, j ∈ ownIdx sig.res → (τ j).ownBlock = some b → w.heap.size ≤ b) ∧ (∀ j k b, j ∈ ownIdx sig.res → k ∈ ownIdx sig.res → (τ j).ownBlock = some b → (τ k).ownBlock = some b → j = k) ∧
      ∀ j, j ∈ ownIdx sig.res → frN j = true → FrV (fun b => w.heap.size ≤ b) w' S' (τ j)
  ocalls : ∀ ob, sig.ob = some ob → ob.isPl = false → ∀ (w : World) (S : Foot) (β : Nat → Nat) (τ : Nat → Value) (vs : List Value) (dd : List D) (oo : List (List D)), ObjIn w S ob β τ vs dd oo →
    HasL (.ofL sig.params) (dd ++ oo.flatten) → Pre (dd ++ oo.flatten) →
    Calls P f vs.toArray w fun e w' => ∃ v S' τ' βn, e = .returned v ∧ ObjOut w S sig ob β τ v (Φ (dd ++ oo.flatten)) w' S' τ' βn
  pcalls : ∀ ob, sig.ob = some ob → ob.isPl = true → ∀ (w : World) (T : TypeId) (v : Value) (zs : List Int), w.ownsRow 0 T 1 v zs.length (zs.map (Value.int .i64)) → Has (.list (.int .i64)) (.list (zs.map (D.int .i64))) → Pre [.list (zs.map (D.int .i64))] →
    Calls P f #[v] w fun e w' => ∃ (u v' : Value) (ys : List Int), e = .returned u ∧ Φ [.list (zs.map (D.int .i64))] = .list (ys.map (D.int .i64)) ∧ Has (.list (.int .i64)) (.list (ys.map (D.int .i64))) ∧ PlOut w T v sig.res.isEmpty ys u v' w'

theorem rep_bare {w w' : World} {S S' : Foot} {t : Ty} {v : Value} {d : D} (hb : t.bare = true) (ht : Has t d) (h : Rep w S v d) : Rep w' S' v d := by
  cases t <;> simp [Ty.bare] at hb
  · obtain ⟨n, rfl, _⟩ := has_int.1 ht; rw [h.inv_int]; exact .int _ _
  · obtain ⟨n, rfl⟩ := has_bool.1 ht; rw [h.inv_bool]; exact .bool _
  · obtain ⟨n, rfl⟩ := has_str.1 ht; rw [h.inv_str]; exact .str _

theorem exN_add (j : Nat) : exN (j + 1000) = true := by unfold exN; exact decide_eq_true (by omega)

theorem ownIdx_exRes (res : List (Bool × List RCell)) : ownIdx (exRes res) = (ownIdx res).map (· + 1000) := by
  induction res with
  | nil => rfl
  | cons c r ih =>
    have h1 : ∀ l : List RCell, (l.map exCell).filterMap (fun x => x.2.map (·.1)) = (l.filterMap (fun x => x.2.map (·.1))).map (· + 1000) := by
      intro l
      induction l with
      | nil => rfl
      | cons a l ih2 =>
        obtain ⟨t, o⟩ := a
        cases o with
        | none => simpa [exCell] using ih2
        | some y => simp only [List.map_cons, exCell, List.filterMap_cons, Option.map_some, ih2]
    have e1 : ownIdx (exRes (c :: r)) = (c.2.map exCell).filterMap (fun x => x.2.map (·.1)) ++ ownIdx (exRes r) := rfl
    have e2 : ownIdx (c :: r) = c.2.filterMap (fun x => x.2.map (·.1)) ++ ownIdx r := rfl
    rw [e1, e2, ih, h1, List.map_append]

theorem cellOk_ex {w w0 : World} {S S' : Foot} {τ : Nat → Value} {c : RCell} {v : Value} {d : D} (hb : c.bare = true) (hS : ∀ b o, S b o → b < w0.heap.size)
    (hnew : ∀ T j, c.2 = some (j, T) → ∀ b, (τ j).ownBlock = some b → w0.heap.size ≤ b) (h : CellOk w 0 S' τ c v d) :
    CellOk w 0 S (fun j => τ (j - 1000)) (exCell c) v d := by
  obtain ⟨t, o⟩ := c
  cases o with
  | none =>
    obtain ⟨h1, h2⟩ := h
    exact ⟨rep_bare hb h2 h1, h2⟩
  | some y =>
    obtain ⟨j, T⟩ := y
    obtain ⟨h1, h2⟩ := h
    have hb' : t.cells.all Ty.bare = true := hb
    rw [List.all_eq_true] at hb'
    refine ⟨by rw [h1]; simp, ?_⟩
    have e1 : (fun j => τ (j - 1000)) (j + 1000) = τ j := by simp
    rw [e1, exN_add]
    obtain ⟨k1, k2, xs, l, hl, hown, hf, hr⟩ := h2
    refine ⟨k1, k2, xs, l, hl, hown, ?_, ?_⟩
    · intro b hb2 o
      refine ⟨fun hs => ?_, fun hs => Bool.noConfusion hs.1⟩
      have h3 := hS b o hs
      have h4 := hnew T j rfl b hb2
      omega
    · intro i x k u y h3 h4 h5
      obtain ⟨l', hl', _, hx⟩ := has_list.1 k1
      rw [hl] at hl'
      injection hl' with hl'
      subst hl'
      have hxt := hx x (List.mem_of_getElem? h3)
      obtain ⟨h6, h7⟩ := has_cells hxt
      have hk : k < t.cells.length := by rw [← h6]; exact (List.getElem?_eq_some_iff.1 h4).1
      have hu : t.cells[k]? = some t.cells[k] := List.getElem?_eq_getElem hk
      obtain ⟨z, hz, hzt⟩ := h7 k _ hu
      rw [h4] at hz
      injection hz with hz
      subst hz
      exact rep_bare (hb' _ (List.getElem_mem hk)) hzt (hr i x k u y h3 h4 h5)

theorem compOk_ex {w w0 : World} {S S' : Foot} {τ : Nat → Value} {c : Bool × List RCell} {v : Value} {d : D} (hb : (c.2.all RCell.bare) = true) (hS : ∀ b o, S b o → b < w0.heap.size)
    (hnew : ∀ x ∈ c.2, ∀ T j, x.2 = some (j, T) → ∀ b, (τ j).ownBlock = some b → w0.heap.size ≤ b) (h : CompOk w 0 S' τ c v d) :
    CompOk w 0 S (fun j => τ (j - 1000)) (c.1, c.2.map exCell) v d := by
  rw [List.all_eq_true] at hb
  unfold CompOk at *
  split
  · rename_i hc
    rw [if_pos hc] at h
    obtain ⟨vs, ds, h1, h2, h3, h4, h5⟩ := h
    refine ⟨vs, ds, h1, h2, by simpa using h3, by simpa using h4, fun i x u y hx hu hy => ?_⟩
    simp only [List.getElem?_map, Option.map_eq_some_iff] at hx
    obtain ⟨x0, hx0, rfl⟩ := hx
    exact cellOk_ex (hb _ (List.mem_of_getElem? hx0)) hS (hnew x0 (List.mem_of_getElem? hx0)) (h5 i x0 u y hx0 hu hy)
  · rename_i hc
    rw [if_neg hc] at h
    obtain ⟨x, hx, h1⟩ := h
    refine ⟨exCell x, by simp [hx], ?_⟩
    have hm : x ∈ c.2 := by rw [hx]; simp
    exact cellOk_ex (hb x hm) hS (hnew x hm) h1

theorem ResOk.ownD {w : World} {base : Nat} {S : Foot} {τ : Nat → Value} {res : List (Bool × List RCell)} {v : Value} {d : D} (h : ResOk w base S τ res v d) {j : Nat} (hj : j ∈ ownIdx res) :
    ∃ (t : Ty) (T : TypeId) (d' : D), OwnD (exN j) w base S T t (τ j) d' ∧ ∃ c ∈ res, (t, some (j, T)) ∈ c.2 := by
  obtain ⟨c, hc, hj⟩ := List.mem_flatMap.1 hj
  obtain ⟨⟨t, x⟩, hx, hxj⟩ := List.mem_filterMap.1 hj
  simp only [Option.map_eq_some_iff] at hxj
  obtain ⟨⟨j', T⟩, rfl, rfl⟩ := hxj
  have comp : ∀ v d, CompOk w base S τ c v d → ∃ d', OwnD (exN j') w base S T t (τ j') d' := by
    intro v d h
    unfold CompOk at h
    split at h
    · obtain ⟨vs, ds, _, _, h1, h2, h3⟩ := h
      obtain ⟨i, hi⟩ := List.getElem?_of_mem hx
      have hil : i < c.2.length := (List.getElem?_eq_some_iff.1 hi).1
      exact ⟨_, (h3 i _ _ _ hi (List.getElem?_eq_getElem (by omega)) (List.getElem?_eq_getElem (by omega))).2⟩
    · obtain ⟨y, hy, h3⟩ := h
      rw [hy] at hx
      simp only [List.mem_singleton] at hx
      subst hx
      exact ⟨_, h3.2⟩
  rcases h with ⟨c', hc', h⟩ | ⟨_, vs, ds, _, _, h1, h2, h3⟩
  · rw [hc'] at hc
    simp only [List.mem_singleton] at hc
    subst hc
    obtain ⟨d', h'⟩ := comp _ _ h
    exact ⟨t, T, d', h', c, by rw [hc']; simp, hx⟩
  · obtain ⟨i, hi⟩ := List.getElem?_of_mem hc
    have hil : i < res.length := (List.getElem?_eq_some_iff.1 hi).1
    obtain ⟨d', h'⟩ := comp _ _ (h3 i _ _ _ hi (List.getElem?_eq_getElem (by omega)) (List.getElem?_eq_getElem (by omega)))
    exact ⟨t, T, d', h', c, hc, hx⟩
/-- Only the results' own slices are told. -/
def saneτ (res : List (Bool × List RCell)) (τ : Nat → Value) : Nat → Value := fun j => if j ∈ ownIdx res then τ j else .nilIface
theorem ResOk.sane {w : World} {base : Nat} {S : Foot} {τ : Nat → Value} {res : List (Bool × List RCell)} {v : Value} {d : D} (h : ResOk w base S τ res v d) : ResOk w base S (saneτ res τ) res v d := by
  have comp : ∀ c ∈ res, ∀ v d, CompOk w base S τ c v d → CompOk w base S (saneτ res τ) c v d := by
    intro c hc v d h
    have cell : ∀ x ∈ c.2, ∀ v d, CellOk w base S τ x v d → CellOk w base S (saneτ res τ) x v d := by
      rintro ⟨t, x⟩ hx v d h
      cases x with
      | none => exact h
      | some y =>
        obtain ⟨j, T⟩ := y
        have hj : j ∈ ownIdx res := List.mem_flatMap.2 ⟨c, hc, List.mem_filterMap.2 ⟨_, hx, rfl⟩⟩
        have e1 : saneτ res τ j = τ j := if_pos hj
        show v = saneτ res τ j ∧ OwnD (exN j) w base S T t (saneτ res τ j) d
        rw [e1]; exact h
    unfold CompOk at *
    split
    · rename_i h1
      rw [if_pos h1] at h
      obtain ⟨vs, ds, a1, a2, a3, a4, a5⟩ := h
      exact ⟨vs, ds, a1, a2, a3, a4, fun i x u y hx hu hy => cell x (List.mem_of_getElem? hx) u y (a5 i x u y hx hu hy)⟩
    · rename_i h1
      rw [if_neg h1] at h
      obtain ⟨x, hx, h2⟩ := h
      exact ⟨x, hx, cell x (by rw [hx]; simp) _ _ h2⟩
  rcases h with ⟨c, hc, h⟩ | ⟨h0, vs, ds, a1, a2, a3, a4, a5⟩
  · exact .inl ⟨c, hc, comp c (by rw [hc]; simp) _ _ h⟩
  · exact .inr ⟨h0, vs, ds, a1, a2, a3, a4, fun i x u y hx hu hy => comp x (List.mem_of_getElem? hx) u y (a5 i x u y hx hu hy)⟩

theorem valIn_bare {w : World} {S : Foot} {X : Nat → Prop} {t : Ty} {v : Value} {d : D} (hb : t.bare = true) (ht : Has t d) (h : Rep w S v d) : ValIn X v := by
  cases t <;> simp [Ty.bare] at hb
  · obtain ⟨n, rfl, _⟩ := has_int.1 ht; rw [h.inv_int]; trivial
  · obtain ⟨n, rfl⟩ := has_bool.1 ht; rw [h.inv_bool]; trivial
  · obtain ⟨n, rfl⟩ := has_str.1 ht; rw [h.inv_str]; trivial
/-- Cells of elements of numbers and the like. -/
theorem valIn_elems {w : World} {S : Foot} {X : Nat → Prop} {t : Ty} {l : List D} {xs : List Value} (hb : (t.cells.all Ty.bare) = true) (hpos : 0 < t.cells.length) (hall : ∀ x ∈ l, Has t x) (hlen : xs.length = l.length * t.cells.length)
    (hr : ∀ (i : Nat) d (j : Nat) v c, l[i]? = some d → d.cells[j]? = some c → xs[i * t.cells.length + j]? = some v → Rep w S v c) : ∀ u ∈ xs, ValIn X u := by
  intro u hu
  obtain ⟨q, hq⟩ := List.getElem?_of_mem hu
  have hql : q < xs.length := (List.getElem?_eq_some_iff.1 hq).1
  have hi : q / t.cells.length < l.length := by rw [Nat.div_lt_iff_lt_mul hpos, ← hlen]; exact hql
  have hj : q % t.cells.length < t.cells.length := Nat.mod_lt _ hpos
  have hd : l[q / t.cells.length]? = some (l[q / t.cells.length]'hi) := List.getElem?_eq_getElem hi
  have hty : t.cells[q % t.cells.length]? = some (t.cells[q % t.cells.length]'hj) := List.getElem?_eq_getElem hj
  obtain ⟨cc, hcc, hcc2⟩ := (has_cells (hall _ (List.mem_of_getElem? hd))).2 _ _ hty
  have hqq : q / t.cells.length * t.cells.length + q % t.cells.length = q := by rw [Nat.mul_comm]; exact Nat.div_add_mod _ _
  exact valIn_bare (List.all_eq_true.1 hb _ (List.getElem_mem hj)) hcc2 (hr _ _ _ u cc hd hcc (by rw [hqq]; exact hq))
theorem frV_ownD {w w0 : World} {S0 : Base} {S : Foot} {T : TypeId} {t : Ty} {v : Value} {d : D} (hb : (t.cells.all Ty.bare) = true) (hnew : ∀ b, v.ownBlock = some b → NewB w0 S0 b) (h : OwnD false w 0 S T t v d) : FrV (NewB w0 S0) w S v := by
  intro a n cap hv
  obtain ⟨hhas, hsz, xs, l, rfl, hown, hS, hr⟩ := h
  obtain ⟨l', hl', _, hall⟩ := has_list.1 hhas
  injection hl' with hl'; subst hl'
  rcases hown.2 with ⟨hn, _⟩ | ⟨b, cap', cur, hv', _⟩
  · rw [hn]; exact .inl rfl
  · have hob : v.ownBlock = some b := by rw [hv']; rfl
    rw [hv']
    by_cases hl : l.length = 0
    · exact .inl hl
    · refine .inr ⟨b, 0, rfl, fun b' => b' = b, ?_, rfl⟩
      rintro b' rfl
      have hpos : 0 < xs.length := by rw [hown.1]; exact Nat.mul_pos (by omega) hsz
      have hcz : ∃ cur T, w.heap[b']? = some (.cells cur T (0, 0)) := by
        rcases hown.2 with ⟨hn, _⟩ | ⟨b2, cap2, cur2, hv2, _, hg2, _⟩
        · rw [hn] at hob; cases hob
        · rw [hv2] at hob
          simp only [Value.ownBlock, Option.some.injEq] at hob
          subst hob
          exact ⟨_, _, hg2⟩
      refine ⟨hnew b' hob, ⟨0, (hS b' hob 0).2 ⟨rfl, hpos⟩⟩, hcz, fun o u hs hu => ?_⟩
      have ho := ((hS b' hob o).1 hs).2
      have h3 := hown.cells (g := b') hob o xs[o] (List.getElem?_eq_getElem ho)
      rw [addr_add, Nat.zero_add, hu] at h3
      injection h3 with h3
      subst h3
      exact valIn_elems hb hsz hall hown.1 hr _ (List.getElem_mem ho)
/-- The results of a call whose own slices are of numbers and the like. -/
theorem ResOk.fresh {w w0 : World} {S0 : Base} {S : Foot} {τ : Nat → Value} {res : List (Bool × List RCell)} {v : Value} {d : D} (h : ResOk w 0 S τ res v d) (hb : frRes res = true) (hx : noEx res = true)
    (hnew : ∀ j b, j ∈ ownIdx res → (τ j).ownBlock = some b → NewB w0 S0 b) (hfrn : ∀ j, j ∈ ownIdx res → frN j = true → FrV (NewB w0 S0) w S (τ j)) : ∀ j, FrV (NewB w0 S0) w S (saneτ res τ j) := by
  intro j
  unfold saneτ
  split
  · rename_i hj
    obtain ⟨t, T, d', h1, c, hc, hm⟩ := h.ownD hj
    have hbt := List.all_eq_true.1 (List.all_eq_true.1 hb c hc) _ hm
    have hxt := List.all_eq_true.1 (List.all_eq_true.1 hx c hc) _ hm
    have hex : exN j = false := by simpa using hxt
    rw [hex] at h1
    have hbt' : (t.cells.all Ty.bare || frN j) = true := hbt
    rcases (Bool.or_eq_true _ _).mp hbt' with hbt' | hbt'
    · exact frV_ownD hbt' (fun b hb' => hnew j b hj hb') h1
    · exact hfrn j hj hbt'
  · exact FrV.nilIface

theorem freshSC_val {C : Cx} {w : World} {G : Gh} {N : Nat → Prop} {c : SC} {v : Value} (hf : freshSC c = true) (hfr : ∀ g, FrV N w G.S (G.τ g)) (hr : RSC C w G c v) : ValIn (FrB N w G.S) v := by
  cases c with
  | dat e t => exact valIn_bare hf hr.2.2 hr.2.1
  | nils t => simp only [RSC] at hr; subst hr; exact .inl rfl
  | own g e t =>
    obtain ⟨_, _, h3, h4, h5⟩ := hr
    obtain ⟨l, hl, _⟩ := has_list.1 h4
    rw [hl] at h3
    obtain ⟨a, cap, hv⟩ := h3.inv_list
    exact h5 ▸ hfr g a _ cap (by rw [← h5]; exact hv)
  | _ => cases hf
/-- The elements of a slice that lies in such blocks. -/
theorem valIn_news {w : World} {S : Foot} {N : Nat → Prop} {v : Value} {l : List D} {A : Option Addr} {k c : Nat} {news : List Value} (hv : ValIn (FrB N w S) v) (h : Rep w S v (.list l)) (hk : ∀ d ∈ l, d.cells.length = k) (hxv : v = .slice A l.length c)
    (hnl : news.length = l.length * k) (hnc : ∀ ad, A = some ad → ∀ (j : Nat) u, news[j]? = some u → w.cell? (ad.add j) = some u) : ∀ u ∈ news, ValIn (FrB N w S) u := by
  intro u hu
  obtain ⟨q, hq⟩ := List.getElem?_of_mem hu
  have hql : q < news.length := (List.getElem?_eq_some_iff.1 hq).1
  cases h with
  | nil ad cap => rw [hnl] at hql; simp at hql
  | list b off cap sz xs _ hsz hne hcap hl hS hc hw hr =>
    have hszk : sz = k := by
      cases hds : l with
      | nil => exact absurd hds hne
      | cons d r => rw [← hw 0 d (by rw [hds]; rfl)]; exact hk d (by rw [hds]; simp)
    subst hszk
    injection hxv with h1 h2 h3
    rcases hv with hv | ⟨b', o', h5, h6⟩
    · exact absurd (List.eq_nil_of_length_eq_zero hv) hne
    · simp only [Option.some.injEq, Addr.mk.injEq] at h5
      obtain ⟨rfl, rfl, _⟩ := h5
      have h7 := hnc _ h1.symm q u hq
      rw [addr_add] at h7
      exact (FrB.set N w S b h6).2.2.2 _ u (hS q (by omega)) h7

theorem mem_ownIdx {res : List (Bool × List RCell)} {c : Bool × List RCell} {x : RCell} {j : Nat} {T : TypeId} (hc : c ∈ res) (hx : x ∈ c.2) (h : x.2 = some (j, T)) : j ∈ ownIdx res :=
  List.mem_flatMap.2 ⟨c, hc, List.mem_filterMap.2 ⟨x, hx, by rw [h]; rfl⟩⟩

theorem PureFn.toEx {P : Program} {f : Nat} {sig : Sig} {Pre : List D → Prop} {Φ : List D → D} (h : PureFn P f sig Pre Φ) (hob : sig.ob = none) (hb : bareRes sig.res = true) : PureFn P f (exSig sig) Pre Φ := by
  refine ⟨h.enter, fun _ w S vs ds hS hlen hrep hty hpre => ?_, fun ob h1 => ?_, fun ob h1 => ?_⟩
  · refine (h.calls hob w S vs ds hS hlen hrep hty hpre).mono ?_
    rintro e w' ⟨v, S', τ, rfl, hbel, h1, h2, h3, h4, h5, h6, _⟩
    unfold bareRes at hb
    rw [List.all_eq_true] at hb
    refine ⟨v, S, fun j => τ (j - 1000), rfl, hbel, fun _ _ h => h, fun b o hs => Nat.lt_of_lt_of_le (hS b o hs) hbel.size, fun _ _ h => .inl h, ?_, ?_, ?_, ?_⟩
    · have hnew : ∀ c ∈ sig.res, ∀ x ∈ c.2, ∀ T j, x.2 = some (j, T) → ∀ b, (τ j).ownBlock = some b → w.heap.size ≤ b :=
        fun c hc x hx T j hj b hb2 => h5 j b (mem_ownIdx hc hx hj) hb2
      rcases h4 with ⟨c, hc, h4⟩ | ⟨hne, vs', ds', h7, h8, h9, h10, h11⟩
      · refine .inl ⟨(c.1, c.2.map exCell), by simp [exSig, exRes, hc], ?_⟩
        have hm : c ∈ sig.res := by rw [hc]; simp
        exact compOk_ex (hb c hm) hS (hnew c hm) h4
      · refine .inr ⟨by simpa [exSig, exRes] using hne, vs', ds', h7, h8, by simpa [exSig, exRes] using h9, by simpa [exSig, exRes] using h10, fun i x u y hx hu hy => ?_⟩
        simp only [exSig, exRes, List.getElem?_map, Option.map_eq_some_iff] at hx
        obtain ⟨c, hc, rfl⟩ := hx
        have hm := List.mem_of_getElem? hc
        exact compOk_ex (hb c hm) hS (hnew c hm) (h11 i c u y hc hu hy)
    · intro j b hj hjb
      have hj' : j ∈ (ownIdx sig.res).map (· + 1000) := by rw [← ownIdx_exRes]; exact hj
      obtain ⟨k, hk, rfl⟩ := List.mem_map.1 hj'
      exact h5 k b hk (by simpa using hjb)
    · intro j k b hj hk hjb hkb
      have hj' : j ∈ (ownIdx sig.res).map (· + 1000) := by rw [← ownIdx_exRes]; exact hj
      have hk' : k ∈ (ownIdx sig.res).map (· + 1000) := by rw [← ownIdx_exRes]; exact hk
      obtain ⟨j0, hj0, rfl⟩ := List.mem_map.1 hj'
      obtain ⟨k0, hk0, rfl⟩ := List.mem_map.1 hk'
      rw [h6 j0 k0 b hj0 hk0 (by simpa using hjb) (by simpa using hkb)]
    · intro j hj hfj
      have hj' : j ∈ (ownIdx sig.res).map (· + 1000) := by rw [← ownIdx_exRes]; exact hj
      obtain ⟨k, _, rfl⟩ := List.mem_map.1 hj'
      exfalso
      unfold frN at hfj
      simp only [Bool.and_eq_true, decide_eq_true_eq] at hfj
      omega
  · exact absurd h1 (by show sig.ob ≠ some ob; rw [hob]; simp)
  · exact absurd h1 (by show sig.ob ≠ some ob; rw [hob]; simp)

theorem sigOf_ok {P : Program} {cs : Tbl} {Φ : Nat → List D → D} {Pre : Nat → List D → Prop} {dst : Option Nat} {k : Nat} {sig : Sig} (h : sigOf cs dst k = some sig) (hcon : ∀ k sig, lk cs.l k = some sig → PureFn P k sig (Pre k) (Φ k)) : PureFn P k sig (Pre k) (Φ k) := by
  unfold sigOf at h
  split at h
  · rename_i s hs
    split at h
    · rename_i hc
      injection h with h; subst h
      exact (hcon k s hs).toEx hc.2.1 hc.2.2
    · injection h with h; subst h; exact hcon k _ hs
  · cases h

end Go.Eng
