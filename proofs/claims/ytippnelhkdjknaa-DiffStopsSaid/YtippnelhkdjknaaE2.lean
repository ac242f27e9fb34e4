/-
  A run of the code in plain data, and that it is sound (2).
-/
import Derived.Test.YtippnelhkdjknaaE1
/- The operations that make, write or freeze memory, and calls: what they do, symbolically. -/
namespace Go.Eng
open Go Go.RowKit

def lk {α β : Type} [DecidableEq α] : List (α × β) → α → Option β
  | [], _ => none
  | (k, v) :: r, x => if x = k then some v else lk r x
structure Eff where
  dst : Option Nat
  ent : Cond × SV
  hp : List (Nat × Option (Bool × List SC))
  live : List (Tag × Option (E × TypeId × Ty))
  rd : List Nat
  items : List Item

def updL {α β : Type} [DecidableEq α] (h : α → β) (l : List (α × β)) : α → β := fun x => match lk l x with
  | some v => v
  | none => h x

def Eff.app (e : Eff) (σ : St) : St :=
  ⟨match e.dst with | some d => upd σ.tm d (some e.ent) | none => σ.tm, updL σ.hp e.hp, updL σ.live e.live⟩

def guardOf (ops : Array Oper) (σ : St) (o : Oper) : Option Cond :=
  match o.guard with
  | none => some []
  | some (j, want) =>
    match (ops[j]?).bind (·.dst) with
    | some t => match σ.tm t with
      | some (c, .one (.dat e .bool)) => some ((e, want) :: c)
      | _ => none
    | none => none

/-- A map is asked. -/
def opLook (P : Program) (σ : St) (pc : Cond) (o : Oper) : Option (Pl × List Nat) :=
  match o.op with
  | .lookup T m x false =>
    match getV P σ pc m T, getD_ P σ pc x 0 with
    | some (.one (.mref id)), some (ek, kt) =>
      match σ.hp id with
      | some (_, cs) => match mapOf cs with
        | some (e, kt', T') => if kt' = kt ∧ T' = T then some ((.one (.dat (.bin .has e ek) .bool), []), [id]) else none
        | none => none
      | none => none
    | _, _ => none
  | _ => none
/-- A map is given a key. -/
def opPut (P : Program) (σ : St) (o : Oper) : Option (Nat × E × E × Ty × TypeId) :=
  match o.op with
  | .mapUpdate T m x (.const (.bool true)) =>
    match getV P σ [] m T, getD_ P σ [] x 0 with
    | some (.one (.mref id)), some (ek, kt) =>
      match σ.hp id with
      | some (false, cs) => match mapOf cs with
        | some (e, kt', T') => if kt' = kt ∧ T' = T ∧ o.dst = none then some (id, ek, e, kt, T) else none
        | none => none
      | _ => none
    | _, _ => none
  | _ => none
/-- A new map. -/
def opMake (cs : Tbl) (o : Oper) : Option (Ty × TypeId) :=
  match o.op with
  | .makeMap T none => (lk cs.mp T).map fun kt => (kt, T)
  | _ => none

def opPlain (P : Program) (σ : St) (pc : Cond) (o : Oper) : Option (Pl × List Nat) :=
  match o.op with
  | .load .. => opLoad P σ pc o
  | .move _ | .assign _ => (opMove P σ pc o).map (·, [])
  | .pick .. => (opPick P σ pc o).map (·, [])
  | .binOp .. => (opBin2 P σ pc o).map (·, [])
  | .unOp .. | .convert .. => (opUn P σ pc o).map (·, [])
  | .extract .. => (opExtract P σ pc o).map (·, [])
  | .fieldAddr .. => (opFieldAddr P σ pc o).map (·, [])
  | .field .. => (opField P σ pc o).map (·, [])
  | .indexAddr .. => (opIndexAddr P σ pc o).map (·, [])
  | .nilCheck _ => (opNil P σ pc o).map (·, [])
  | .slice _ _ _ _ none => (opSlice P σ pc o).map (·, [])
  | .slice .. => (opSlice3 P σ pc o).map (·, [])
  | .build .. => (opBuild P σ pc o).map (·, [])
  | .lookup .. => opLook P σ pc o
  | .call { callee := .builtin .len, .. } | .call { callee := .builtin .min, .. } | .call { callee := .builtin .max, .. } => (opLen P σ pc o).map (·, [])
  | _ => none

/-- A new variable: its cells. -/
def opNew (P : Program) (σ : St) (pc : Cond) (o : Oper) : Option (List SC) :=
  match o.op with
  | .alloc t =>
    match flat P fuelF t, (P.info? t).bind (·.zero) with
    | some ts, some z => zeroSCs ts z.cells.toList
    | none, some z => (match z.cells.toList with | [.map none] => some [.mnil] | _ => none)
    | _, _ => none
  | .box t x => (getV P σ pc x t).bind asCells
  | _ => none

/-- A store into a variable of the call's own: which, and what it holds then. -/
def opStore (P : Program) (σ : St) (pc : Cond) (o : Oper) : Option (Nat × List SC) :=
  match o.op with
  | .store t x y =>
    match getV P σ pc x t, (getV P σ pc y t).bind asCells, sizeT P t with
    | some (.one (.adr id off)), some cs, some n =>
      match σ.hp id with
      | some (false, old) => if mapOf old = none ∧ cs.length = n ∧ off + cs.length ≤ old.length then some (id, old.take off ++ cs ++ old.drop (off + cs.length)) else none
      | _ => none
    | _, _, _ => none
  | _ => none

/-- What a function literal captures. -/
def capsE (P : Program) (σ : St) (pc : Cond) : List Operand → Option (List (E × Ty) × List (Nat × List SC))
  | [] => some ([], [])
  | x :: r =>
    match getV P σ pc x 0, capsE P σ pc r with
    | some (.one (.adr id 0)), some (es, fz) =>
      match σ.hp id with
      | some (_, cs) => match asDatas cs with
        | some (ds, ts) => some ((.un .ptrc (.ofL ds), .box (.ofL ts)) :: es, (id, cs) :: fz)
        | none => none
      | none => none
    | some (.one (.dat e (.box fs))), some (es, fz) => some ((e, .box fs) :: es, fz)
    | _, _ => none

def opFn (P : Program) (σ : St) (pc : Cond) (o : Oper) : Option (E × Ty × List (Nat × List SC)) :=
  match o.op with
  | .makeFunc (.func f) first captured =>
    if first.toList.isEmpty then
      match capsE P σ pc captured.toList with
      | some (es, fz) => some (.un (.fnc f) (.ofL (es.map (·.1))), .fn f (.ofL (es.map (·.2))), fz)
      | none => none
    else none
  | _ => none

def argsE (P : Program) (σ : St) (pc : Cond) : List Operand → List TypeId → Option (List (E × Ty))
  | [], [] => some []
  | x :: r, t :: ts => match getD_ P σ pc x t, argsE P σ pc r ts with
    | some e, some es => some (e :: es)
    | _, _ => none
  | _, _ => none

def cellSC (own : Bool) (p : Nat) (e : E) : RCell → SC
  | (t, none) => .dat e t
  | (t, some (j, _)) => if own then (if exN j then .xo (p, j) t else .own (p, j) e t) else .dat e (.list t)
def cellsSC (own : Bool) (p : Nat) (e : E) : Nat → List RCell → List SC
  | _, [] => []
  | j, c :: r => cellSC own p (.un (.cell j) e) c :: cellsSC own p e (j + 1) r
def compSC (own : Bool) (p : Nat) (e : E) (c : Bool × List RCell) : Bool × List SC :=
  (c.1, if c.1 then cellsSC own p e 0 c.2 else c.2.map (cellSC own p e))
def compsSC (own : Bool) (p : Nat) (e : E) : Nat → List (Bool × List RCell) → List (Bool × List SC)
  | _, [] => []
  | j, c :: r => compSC own p (.un (.cell j) e) c :: compsSC own p e (j + 1) r
def resSVx (own : Bool) (p : Nat) (e : E) : List (Bool × List RCell) → SV
  | [c] => match compSC own p e c with
    | (true, l) => .agg l
    | (false, l) => .one (l.headD (.nils .nil))
  | cs => .tup (compsSC own p e 0 cs)
def resSV (own : Bool) (p : Nat) (res : List (Bool × List RCell)) : SV := resSVx own p (.var p) res

def cellLive (p : Nat) (e : E) : RCell → List (Tag × Option (E × TypeId × Ty))
  | (_, none) => []
  | (t, some (j, T)) => [((p, j), some (e, T, t))]
def cellsLive (p : Nat) (e : E) : Nat → List RCell → List (Tag × Option (E × TypeId × Ty))
  | _, [] => []
  | j, c :: r => cellLive p (.un (.cell j) e) c ++ cellsLive p e (j + 1) r
def compLive (p : Nat) (e : E) (c : Bool × List RCell) : List (Tag × Option (E × TypeId × Ty)) :=
  if c.1 then cellsLive p e 0 c.2 else c.2.flatMap (cellLive p e)
def compsLive (p : Nat) (e : E) : Nat → List (Bool × List RCell) → List (Tag × Option (E × TypeId × Ty))
  | _, [] => []
  | j, c :: r => compLive p (.un (.cell j) e) c ++ compsLive p e (j + 1) r
def resLivex (p : Nat) (e : E) : List (Bool × List RCell) → List (Tag × Option (E × TypeId × Ty))
  | [c] => compLive p e c
  | cs => compsLive p e 0 cs
def resLive (p : Nat) (res : List (Bool × List RCell)) : List (Tag × Option (E × TypeId × Ty)) := resLivex p (.var p) res
/-- No slices of their own kind among the results. -/
def noEx (res : List (Bool × List RCell)) : Bool := res.all fun c => c.2.all fun x => match x.2 with | some (j, _) => !exN j | none => true
def ownIdx (res : List (Bool × List RCell)) : List Nat := res.flatMap fun c => c.2.filterMap fun x => x.2.map (·.1)

/-- Results as slices of their own kind. -/
def exCell : RCell → RCell
  | (t, some (j, T)) => (t, some (j + 1000, T))
  | c => c
def exRes (res : List (Bool × List RCell)) : List (Bool × List RCell) := res.map fun c => (c.1, c.2.map exCell)
def exSig (s : Sig) : Sig := { s with res := exRes s.res }
def Ty.bare : Ty → Bool
  | .int _ | .bool | .str => true
  | _ => false
/-- Results that lean on nothing but what the call has made. -/
def RCell.bare : RCell → Bool
  | (t, none) => t.bare
  | (t, some _) => t.cells.all Ty.bare
def bareRes (res : List (Bool × List RCell)) : Bool := res.all fun c => c.2.all RCell.bare
/-- A function's signature, as a call takes it: its results as slices of their own kind, where that is asked. -/
def exDst (cs : Tbl) : Option Nat → Bool
  | some d => cs.ex.contains d
  | none => false
def sigOf (cs : Tbl) (dst : Option Nat) (k : Nat) : Option Sig :=
  match lk cs.l k with
  | some s => if exDst cs dst = true ∧ s.ob = none ∧ bareRes s.res = true then some (exSig s) else some s
  | none => none

/-- A call of a function that has a contract: which, its arguments. -/
def opCall (P : Program) (cs : Tbl) (σ : St) (pc : Cond) (o : Oper) : Option (Nat × E × Sig) :=
  match o.op with
  | .call { callee := .value f, args, argTypes } =>
    match getV P σ pc f 0, argsE P σ pc args.toList argTypes.toList with
    | some (.one (.dat fe (.fn k fs))), some es =>
      match sigOf cs o.dst k with
      | some sig =>
        if sig.ob.isNone = true ∧ es.map (·.2) ++ fs.toL = sig.params ∧ (ownIdx sig.res).Nodup ∧ (sig.res.all fun c => c.1 || c.2.length == 1) = true ∧ (pc.isEmpty || noEx sig.res) = true then
          some (k, .ofL (es.map (·.1) ++ (cellsE fe 0 fs.toL).map (·.1)), sig)
        else none
      | none => none
    | _, _ => none
  | _ => none

def nodupTags : List (Option Tag) → Bool
  | [] => true
  | none :: r => nodupTags r
  | some g :: r => !r.contains (some g) && nodupTags r

abbrev OwnL := List (Nat × Option Tag)
def retCell (σ : St) : RCell → SC → Option (E × OwnL)
  | (t, none), c => match asData c with
    | some (e, t') => if t' = t then some (e, []) else none
    | none => none
  | (t, some (j, T)), c => match c with
    | .nils t' => if t' = t ∧ 0 < t.cells.length then some (.nil, [(j, none)]) else none
    | .own g _ t' => match σ.live g with
      | some (e, T', t'') => if t' = t ∧ t'' = t ∧ T' = T ∧ 0 < t.cells.length ∧ g.ex = false ∧ exN j = false then some (e, [(j, some g)]) else none
      | none => none
    | .xo g t' => match σ.live g with
      | some (e, T', t'') => if t' = t ∧ t'' = t ∧ T' = T ∧ 0 < t.cells.length ∧ g.ex = true ∧ exN j = true then some (e, [(j, some g)]) else none
      | none => none
    | _ => none
def retCells (σ : St) : List RCell → List SC → Option (List E × OwnL)
  | [], [] => some ([], [])
  | r :: rs, c :: cs => match retCell σ r c, retCells σ rs cs with
    | some (e, l), some (es, ls) => some (e :: es, l ++ ls)
    | _, _ => none
  | _, _ => none
theorem retCells_notMap {σ : St} {rc : List RCell} {cs : List SC} {x : List E × OwnL} (h : retCells σ rc cs = some x) : mapOf cs = none := by
  unfold mapOf
  split
  · cases rc with
    | nil => simp [retCells] at h
    | cons r rs =>
      obtain ⟨t, o⟩ := r
      cases o <;> simp [retCells, retCell, asData] at h
  · rfl
def ownOkB (l : OwnL) : Bool := nodupTags (l.map (·.2)) && decide ((l.map (·.1)).Nodup)

def rcTy : RCell → Ty
  | (t, none) => t
  | (t, some _) => .list t
def rcIdx (rc : List RCell) : List Nat := rc.filterMap fun x => x.2.map (·.1)
def Ob.inIdx (ob : Ob) : List Nat := ob.objs.flatMap rcIdx
def outIdx (sig : Sig) (ob : Ob) : List Nat := ownIdx sig.res ++ ob.outs.flatMap rcIdx

/-- The arguments of a call that is handed objects: its data; the objects' numbers. -/
def oArgs (P : Program) (σ : St) (pc : Cond) : List Bool → List Operand → List TypeId → Option (List (E × Ty) × List Nat)
  | [], [], [] => some ([], [])
  | false :: sh, x :: r, t :: ts => match getD_ P σ pc x t, oArgs P σ pc sh r ts with
    | some e, some (es, ids) => some (e :: es, ids)
    | _, _ => none
  | true :: sh, x :: r, t :: ts => match getV P σ pc x t, oArgs P σ pc sh r ts with
    | some (.one (.adr id 0)), some (es, ids) => some (es, id :: ids)
    | _, _ => none
  | _, _, _ => none
/-- What the objects hold. -/
def oObjs (σ : St) : List (List RCell) → List Nat → Option (List (List E) × OwnL)
  | [], [] => some ([], [])
  | rc :: r, id :: ids => match σ.hp id with
    | some (false, cs) => match retCells σ rc cs, oObjs σ r ids with
      | some (es, l), some (ess, ls) => some (es :: ess, l ++ ls)
      | _, _ => none
    | _ => none
  | _, _ => none
/-- The objects behind the call. -/
def oHp (p : Nat) : Nat → List Nat → List (List RCell) → List (Nat × Option (Bool × List SC))
  | k, id :: ids, rc :: r => (id, some (false, cellsSC true p (.un (.cell k) (.var p)) 0 rc)) :: oHp p (k + 1) ids r
  | _, _, _ => []
def oLive (p : Nat) : Nat → List (List RCell) → List (Tag × Option (E × TypeId × Ty))
  | k, rc :: r => cellsLive p (.un (.cell k) (.var p)) 0 rc ++ oLive p (k + 1) r
  | _, [] => []
def rcSc : RCell → Bool
  | (t, none) => t.scalar
  | _ => true

structure OCall where
  k : Nat
  args : E
  sig : Sig
  ob : Ob
  ids : List Nat
  own : OwnL

def opOCall (P : Program) (cs : Tbl) (σ : St) (pc : Cond) (o : Oper) : Option OCall :=
  match o.op with
  | .call { callee := .value f, args, argTypes } =>
    match getV P σ [] f 0 with
    | some (.one (.dat _ (.fn k .nil))) =>
      match lk cs.l k with
      | some sig =>
        match sig.ob with
        | some ob =>
          match oArgs P σ pc ob.shape args.toList argTypes.toList with
          | some (es, ids) =>
            match oObjs σ ob.objs ids with
            | some (ess, l) =>
              if es.map (·.2) ++ ob.objs.flatten.map rcTy = sig.params ∧ ids.Nodup ∧ ownOkB l = true ∧ (outIdx sig ob).Nodup ∧ (sig.res.all fun c => c.1 || c.2.length == 1) = true ∧
                  ob.outs.length = ids.length + ob.fresh.toNat ∧ (ob.outs.all fun rc => rc.all rcSc) = true ∧ ids.length = ob.objs.length then
                some ⟨k, .ofL (es.map (·.1) ++ ess.flatten), sig, ob, ids, l⟩
              else none
            | none => none
          | none => none
        | none => none
      | none => none
    | _ => none
  | _ => none
def OCall.eff (x : OCall) (p : Nat) (dst : Option Nat) : Eff :=
  ⟨dst, ([], if x.ob.fresh then .one (.adr p 0) else resSVx true p (.un (.cell 0) (.var p)) x.sig.res), oHp p 1 (x.ids ++ if x.ob.fresh then [p] else []) x.ob.outs,
    (x.own.filterMap fun y => y.2.map fun g => (g, none)) ++ (if x.ob.fresh then [] else resLivex p (.un (.cell 0) (.var p)) x.sig.res) ++ oLive p 1 x.ob.outs, x.ids, [.call p x.k x.args []]⟩

/-- An append onto an owned slice, or onto nil: which is used up; the new slice; its element's type. -/
def opAppend (P : Program) (σ : St) (pc : Cond) (o : Oper) : Option (Option Tag × E × E × TypeId × Ty × Nat) :=
  match o.op with
  | .call { callee := .builtin .append, args, argTypes } =>
    match args.toList, argTypes.toList with
    | [s, x], [t, t'] =>
      match P.underlying t, getV P σ pc s t, getD_ P σ pc x t with
      | some (.slice el), some sv, some (e2, .list u) =>
        match P.info? el, tyV P el with
        | some ie, some u' =>
          if t = t' ∧ u = u' ∧ u.cells.length = ie.size ∧ 0 < ie.size ∧ (u.cells.all Ty.scalar) = true ∧ ((ie.zero.map fun z => z.cells.size) = some ie.size) ∧ ie.bytes = u.bytes then
            match sv with
            | .one (.nils v) => if v = u then some (none, .nil, e2, el, u, ie.bytes) else none
            | .one (.own g _ v) => match σ.live g with
              | some (e1, T, v') => if v = u ∧ v' = u ∧ T = el ∧ g.ex = false then some (some g, e1, e2, el, u, ie.bytes) else none
              | none => none
            | _ => none
          else none
        | _, _ => none
      | _, _, _ => none
    | _, _ => none
  | _ => none

/-- An append of one element or more onto a slice with no room behind it. -/
def opAppClip (P : Program) (σ : St) (o : Oper) : Option (E × E × TypeId × Ty × Nat) :=
  match o.op with
  | .call { callee := .builtin .append, args, argTypes } =>
    match args.toList, argTypes.toList with
    | [s, x], [t, t'] =>
      match P.underlying t, getV P σ [] s t, getD_ P σ [] x t with
      | some (.slice el), some (.one (.clip e1 v)), some (e2, .list u) =>
        match P.info? el, tyV P el with
        | some ie, some u' =>
          if t = t' ∧ u = u' ∧ u.cells.length = ie.size ∧ 0 < ie.size ∧ (u.cells.all Ty.scalar) = true ∧ ((ie.zero.map fun z => z.cells.size) = some ie.size) ∧ ie.bytes = u.bytes ∧ v = u then some (e1, e2, el, u, ie.bytes) else none
        | _, _ => none
      | _, _, _ => none
    | _, _ => none
  | _ => none

def SC.isXo : SC → Bool
  | .xo .. => true
  | _ => false
def SV.hasXo : SV → Bool
  | .one c => c.isXo
  | .agg l => l.any SC.isXo
  | .tup _ => false
/-- What a slice of its own kind holds. -/
def liveX (σ : St) (g : Tag) (t : Ty) : Option (E × TypeId) :=
  match σ.live g with
  | some (e, T, t') => if t' = t ∧ g.ex = true ∧ 0 < t.cells.length then some (e, T) else none
  | none => none
/-- An element with some of its cells new. -/
def setElE (u : Ty) (el : E) (off : Nat) (es : List E) : Option E :=
  match u, es with
  | .agg fs, es => some (.un .agg (.ofL (((cellsE el 0 fs.toL).map (·.1)).take off ++ es ++ ((cellsE el 0 fs.toL).map (·.1)).drop (off + es.length))))
  | u, [x] => if off = 0 ∧ u.scalar = true then some x else none
  | _, _ => none
def setLE (e i x : E) : E := .bin .cat (.bin .take e i) (.cons x (.bin .drop (.bin .drop e i) (.kint .i64 1)))

def xLoad (P : Program) (σ : St) (o : Oper) : Option Eff :=
  match o.op with
  | .load t x =>
    if (P.underlying t).isNone then none else
    match getV P σ [] x t with
    | some (.one (.xadr g i u off)) => match liveX σ g u with
      | some (e, T) => (elemLoad P t (.bin .idx e i) u off).map fun s => ⟨o.dst, ([], s.1), [], [(g, some (e, T, u))], [], []⟩
      | none => none
    | _ => none
  | _ => none
def xStore (P : Program) (σ : St) (o : Oper) : Option Eff :=
  match o.op with
  | .store t x y =>
    match getV P σ [] x t, ((getV P σ [] y t).bind asCells).bind asDatas, sizeT P t with
    | some (.one (.xadr g i u off)), some (es, ts), some n => match liveX σ g u with
      | some (e, T) =>
        if es.length = n ∧ off + n ≤ u.cells.length ∧ ts = (u.cells.drop off).take n ∧ (ts.all Ty.scalar) = true ∧ o.dst = none then
          (setElE u (.bin .idx e i) off es).map fun x => ⟨none, ([], .agg []), [], [(g, some (setLE e i x, T, u))], [], []⟩
        else none
      | none => none
    | _, _, _ => none
  | _ => none
def xLen (P : Program) (σ : St) (o : Oper) : Option Eff :=
  match o.op with
  | .call { callee := .builtin .len, args, argTypes } =>
    match args.toList, argTypes[0]? with
    | [x], some t => match P.underlying t, getV P σ [] x t with
      | some (.slice _), some (.one (.xo g u)) => match liveX σ g u with
        | some (e, T) => some ⟨o.dst, ([], .one (.dat (.un .len e) (.int .i64))), [], [(g, some (e, T, u))], [], []⟩
        | none => none
      | _, _ => none
    | _, _ => none
  | _ => none
def xIndex (P : Program) (σ : St) (o : Oper) : Option Eff :=
  match o.op with
  | .indexAddr t x i =>
    match P.underlying t, getV P σ [] x t, getD_ P σ [] i t with
    | some (.slice el), some (.one (.xo g u)), some (ie, .int k) => match liveX σ g u with
      | some (e, T) =>
        if sizeT P el = some u.cells.length then
          some ⟨o.dst, ([], .one (.xadr g ie u 0)), [], [(g, some (e, T, u))], [], [.obl [] (.bin .and (.bin .le (.kint k 0) ie) (.bin .lt ie (.un .len e)))]⟩
        else none
      | none => none
    | _, _, _ => none
  | _ => none
/-- An append onto a slice of its own kind, or onto nil. -/
def opAppX (P : Program) (σ : St) (o : Oper) : Option (Option Tag × E × E × TypeId × Ty × Nat) :=
  match o.op with
  | .call { callee := .builtin .append, args, argTypes } =>
    match args.toList, argTypes.toList with
    | [s, x], [t, t'] =>
      match P.underlying t, getV P σ [] s t, getD_ P σ [] x t with
      | some (.slice el), some sv, some (e2, .list u) =>
        match P.info? el, tyV P el with
        | some ie, some u' =>
          if t = t' ∧ u = u' ∧ u.cells.length = ie.size ∧ 0 < ie.size ∧ (u.cells.all Ty.scalar) = true ∧ ((ie.zero.map fun z => z.cells.size) = some ie.size) ∧ ie.bytes = u.bytes then
            match sv with
            | .one (.nils v) => if v = u then some (none, .nil, e2, el, u, ie.bytes) else none
            | .one (.xo g v) => match liveX σ g v with
              | some (e1, T) => if v = u ∧ T = el then some (some g, e1, e2, el, u, ie.bytes) else none
              | none => none
            | _ => none
          else none
        | _, _ => none
      | _, _, _ => none
    | _, _ => none
  | _ => none
def xAppend (P : Program) (σ : St) (p : Nat) (o : Oper) : Option Eff :=
  match opAppX P σ o with
  | some (g, e1, e2, T, t, b) => some ⟨o.dst, ([], .one (.xo (p, 1000) t)), [], (match g with | some g => [(g, none)] | none => []) ++ [((p, 1000), some (.bin .cat e1 e2, T, t))], [], [.room [] (.bin .cat e1 e2) b]⟩
  | none => none
/-- A slice literal, of its own kind. -/
def xLit (P : Program) (σ : St) (p : Nat) (o : Oper) : Option Eff :=
  match opLit P σ [] o with
  | some (e, T, t, _) => some ⟨o.dst, ([], .one (.xo (p, 1000) t)), [], [((p, 1000), some (e, T, t))], [], []⟩
  | none => none

/-- Arguments, of which some are slices of their own kind. -/
def asDataX (σ : St) : SC → Option ((E × Ty) × List (Tag × Option (E × TypeId × Ty)))
  | .xo g t => match liveX σ g t with
    | some (e, T) => some ((e, .list t), [(g, some (e, T, t))])
    | none => none
  | c => (asData c).map fun x => (x, [])
def asDatasX (σ : St) : List SC → Option ((List E × List Ty) × List (Tag × Option (E × TypeId × Ty)))
  | [] => some (([], []), [])
  | c :: r => match asDataX σ c, asDatasX σ r with
    | some ((e, t), l), some ((es, ts), ls) => some ((e :: es, t :: ts), l ++ ls)
    | _, _ => none
def asDataVX (σ : St) : SV → Option ((E × Ty) × List (Tag × Option (E × TypeId × Ty)))
  | .one c => asDataX σ c
  | .agg l => match asDatasX σ l with
    | some ((es, ts), ls) => some ((.un .agg (.ofL es), .agg (.ofL ts)), ls)
    | none => none
  | .tup _ => none
def argsX (P : Program) (σ : St) (pc : Cond) : List Operand → List TypeId → Option (List (E × Ty) × List (Tag × Option (E × TypeId × Ty)))
  | [], [] => some ([], [])
  | x :: r, t :: ts => match (getV P σ pc x t).bind (asDataVX σ), argsX P σ pc r ts with
    | some (e, l), some (es, ls) => some (e :: es, l ++ ls)
    | _, _ => none
  | _, _ => none
def xCall (P : Program) (cs : Tbl) (σ : St) (p : Nat) (o : Oper) : Option Eff :=
  match o.op with
  | .call { callee := .value f, args, argTypes } =>
    match getV P σ [] f 0, argsX P σ [] args.toList argTypes.toList with
    | some (.one (.dat _ (.fn k .nil))), some (es, l) =>
      match lk cs.l k with
      | some sig =>
        if sig.ob.isNone = true ∧ es.map (·.2) = sig.params ∧ (ownIdx sig.res).Nodup ∧ (sig.res.all fun c => c.1 || c.2.length == 1) = true ∧ (sig.res.all fun c => c.2.all RCell.bare) = true then
          some ⟨o.dst, ([], resSV true p sig.res), [], l ++ resLive p sig.res, [], [.call p k (.ofL (es.map (·.1))) []]⟩
        else none
      | none => none
    | _, _ => none
  | _ => none
/-- The same, guarded: results are numbers, and the like. -/
def xCallG (P : Program) (cs : Tbl) (σ : St) (pc : Cond) (p : Nat) (o : Oper) : Option Eff :=
  match o.op with
  | .call { callee := .value f, args, argTypes } =>
    match getV P σ [] f 0, argsX P σ pc args.toList argTypes.toList with
    | some (.one (.dat _ (.fn k .nil))), some (es, l) =>
      match lk cs.l k with
      | some sig =>
        if sig.ob.isNone = true ∧ es.map (·.2) = sig.params ∧ ownIdx sig.res = [] ∧ noEx sig.res = true ∧ (sig.res.all fun c => c.1 || c.2.length == 1) = true ∧ (sig.res.all fun c => c.2.all RCell.bare) = true then
          some ⟨o.dst, (pc, resSV false p sig.res), [], l, [], [.call p k (.ofL (es.map (·.1))) pc]⟩
        else none
      | none => none
    | _, _ => none
  | _ => none

def argXo (P : Program) (σ : St) (x : Operand × TypeId) : Bool := match getV P σ [] x.1 x.2 with | some s => s.hasXo | none => false
/-- A guarded call that is handed slices of their own kind. -/
def argXoG (P : Program) (σ : St) (pc : Cond) (x : Operand × TypeId) : Bool := match getV P σ pc x.1 x.2 with | some s => s.hasXo | none => false
def xKindG (P : Program) (σ : St) (pc : Cond) (o : Oper) : Bool :=
  match o.op with
  | .call { callee := .value _, args, argTypes } => (args.toList.zip argTypes.toList).any (argXoG P σ pc)
  | _ => false
/-- Operations on slices of their own kind: told by their operands. -/
def xKind (P : Program) (cs : Tbl) (σ : St) (o : Oper) : Nat :=
  match o.op with
  | .load t x => match getV P σ [] x t with | some (.one (.xadr ..)) => 1 | _ => 0
  | .store t x _ => match getV P σ [] x t with | some (.one (.xadr ..)) => 2 | _ => 0
  | .indexAddr t x _ => match getV P σ [] x t with | some (.one (.xo ..)) => 4 | _ => 0
  | .call { callee := .builtin .len, args, argTypes } => match args.toList, argTypes.toList with
    | [x], [t] => match getV P σ [] x t with | some (.one (.xo ..)) => 3 | _ => 0
    | _, _ => 0
  | .call { callee := .builtin .append, args, argTypes } => match args.toList, argTypes.toList with
    | x :: _, t :: _ => match getV P σ [] x t with
      | some (.one (.xo ..)) => 5
      | some (.one (.nils _)) => match o.dst with | some d => if cs.ex.contains d then 5 else 0 | none => 0
      | _ => 0
    | _, _ => 0
  | .buildSlice .. => match o.dst with | some d => if cs.ex.contains d then 6 else 0 | none => 0
  | .call { callee := .value _, args, argTypes } => if (args.toList.zip argTypes.toList).any (argXo P σ) then 7 else 0
  | _ => 0
def isEat (cs : Tbl) (o : Oper) : Bool :=
  match o.op with
  | .call { callee := .value (.func k), .. } => (lk cs.et k).isSome
  | _ => false
def eatCall (P : Program) (cs : Tbl) (σ : St) (p : Nat) (o : Oper) : Option Eff :=
  match o.op with
  | .call { callee := .value (.func k), args, argTypes } =>
    match lk cs.et k with
    | some sg =>
      match argsE P σ [] (args.toList.take sg.ps.length) (argTypes.toList.take sg.ps.length), args.toList.drop sg.ps.length with
      | some es, [xo, xm] =>
        match getV P σ [] xo 0, getV P σ [] xm 0 with
        | some (.one (.xo g t)), some (.one (.mref id)) =>
          match liveX σ g t, σ.hp id with
          | some (e, T), some (false, hcs) =>
            match mapOf hcs with
            | some (em, kt, TM) =>
              if es.map (·.2) = sg.ps ∧ t = sg.t ∧ T = sg.T ∧ kt = sg.kt ∧ TM = sg.TM then
                some ⟨o.dst, ([], .one (.xo (p, 1000) t)), [(id, none)], [(g, none), ((p, 1000), some (.var p, T, t))], [id], [.call p k (.ofL (es.map (·.1) ++ [e, em])) []]⟩
              else none
            | none => none
          | _, _ => none
        | _, _ => none
      | _, _ => none
    | none => none
  | _ => none
def effX (P : Program) (cs : Tbl) (σ : St) (p : Nat) (o : Oper) : Nat → Option Eff
  | 1 => xLoad P σ o
  | 2 => xStore P σ o
  | 3 => xLen P σ o
  | 4 => xIndex P σ o
  | 5 => xAppend P σ p o
  | 6 => xLit P σ p o
  | _ => if isEat cs o then eatCall P cs σ p o else xCall P cs σ p o

def opKind : Op → Nat
  | .alloc _ | .box .. => 1
  | .store .. => 2
  | .makeFunc .. => 3
  | .call { callee := .value _, .. } => 4
  | .call { callee := .builtin .append, .. } => 5
  | .buildSlice .. => 6
  | .makeMap .. => 7
  | .mapUpdate .. => 8
  | _ => 0


def effOp0 (P : Program) (cs : Tbl) (ops : Array Oper) (σ : St) (p : Nat) (o : Oper) : Option Eff :=
  match guardOf ops σ o with
  | none => none
  | some pc =>
    match opKind o.op with
    | 1 => match opNew P σ pc o with
      | some l => if pc = [] ∧ l.all SC.scalar = true then some ⟨o.dst, (pc, .one (.adr p 0)), [(p, some (false, l))], [], [], []⟩ else none
      | none => none
    | 2 => match opStore P σ pc o with
      | some (id, l) => if pc = [] ∧ l.all SC.scalar = true ∧ o.dst = none then some ⟨none, ([], .agg []), [(id, some (false, l))], [], [id], []⟩ else none
      | none => none
    | 3 => match opFn P σ pc o with
      | some (e, t, fz) => some ⟨o.dst, (pc, .one (.dat e t)), fz.map fun x => (x.1, some (true, x.2)), [], fz.map (·.1), []⟩
      | none => none
    | 4 => match opCall P cs σ pc o with
      | some (k, e, sig) => some ⟨o.dst, (pc, resSV pc.isEmpty p sig.res), [], if pc.isEmpty then resLive p sig.res else [], [], [.call p k e pc]⟩
      | none => match opOCall P cs σ [] o with
        | some x => if pc = [] then some (x.eff p o.dst) else none
        | none => none
    | 5 => match opAppClip P σ o with
      | some (e1, e2, T, t, b) =>
        if pc = [] then some ⟨o.dst, ([], .one (.own (p, 0) (.bin .cat e1 e2) t)), [], [((p, 0), some (.bin .cat e1 e2, T, t))], [], [.room [] (.bin .cat e1 e2) b, .obl [] (.bin .lt (.kint .i64 0) (.un .len e2))]⟩ else none
      | none => match opAppend P σ pc o with
        | some (g, e1, e2, T, t, b) =>
          if pc = [] then
            some ⟨o.dst, (pc, .one (.own (p, 0) (.bin .cat e1 e2) t)), [], (match g with | some g => [(g, none)] | none => []) ++ [((p, 0), some (.bin .cat e1 e2, T, t))], [], [.room pc (.bin .cat e1 e2) b]⟩
          else none
        | none => none
    | 6 => match opLit P σ pc o with
      | some (e, T, t, _) =>
        if pc.isEmpty then some ⟨o.dst, (pc, .one (.own (p, 0) e t)), [], [((p, 0), some (e, T, t))], [], []⟩
        else some ⟨o.dst, (pc, .one (.dat e (.list t))), [], [], [], []⟩
      | none => none
    | 7 => match opMake cs o with
      | some (kt, T) => if pc = [] then some ⟨o.dst, (pc, .one (.mref p)), [(p, some (false, [.mcon .nil kt T]))], [], [], []⟩ else none
      | none => none
    | 8 => match opPut P σ o with
      | some (id, ek, e, kt, T) => if pc = [] ∧ ek.lt p = true then some ⟨none, ([], .agg []), [(id, some (false, [.mcon (.cons ek e) kt T]))], [], [id], [.room [] (.cons ek e) kt.bytes]⟩ else none
      | none => none
    | _ => match opPlain P σ pc o with
      | some ((s, is), rd) => some ⟨o.dst, (pc, s), [], [], rd, is⟩
      | none => none

def effOp (P : Program) (cs : Tbl) (ops : Array Oper) (σ : St) (p : Nat) (o : Oper) : Option Eff :=
  match o.guard, xKind P cs σ o with
  | none, k + 1 => effX P cs σ p o (k + 1)
  | some _, _ => match guardOf ops σ o with
    | some pc => if xKindG P σ pc o then xCallG P cs σ pc p o else effOp0 P cs ops σ p o
    | none => none
  | _, _ => effOp0 P cs ops σ p o

/-- What leans on new blocks alone, where all slices that were made do. -/
def freshSC : SC → Bool
  | .dat _ t => t.bare
  | .nils _ => true
  | .own .. => true
  | _ => false
def freshArg : SV → Bool
  | .one (.own ..) => true
  | .one (.nils _) => true
  | .one (.dat _ (.list u)) => u.cells.all Ty.bare
  | .one (.clip _ u) => u.cells.all Ty.bare
  | _ => false
/-- A slice literal's cells. -/
def litSCs (P : Program) (σ : St) (pc : Cond) (o : Oper) : Option (List SC) :=
  match o.op with
  | .buildSlice t len parts =>
    match P.underlying t with
    | some (.slice el) =>
      match P.info? el, flat P fuelF el, partsSC P σ pc (fun _ => el) parts.toList with
      | some ie, some ts, some ps =>
        match ie.zero.bind fun z => zeroSCs ts z.cells.toList with
        | some zs => fillSC (fun i => some (i * ie.size, ie.size)) ((List.range (len * ie.size)).map fun j => zs.getD (j % zs.length) (.nils .nil)) ps
        | none => none
      | _, _, _ => none
    | _ => none
  | _ => none
/-- An own result that leans on the call's own blocks alone: told by its number. -/
def frN (j : Nat) : Bool := decide (500 ≤ j) && decide (j < 1000)
def RCell.fr : RCell → Bool
  | (t, none) => t.bare
  | (t, some (j, _)) => t.cells.all Ty.bare || frN j
def frRes (res : List (Bool × List RCell)) : Bool := res.all fun c => c.2.all RCell.fr
def noFr (res : List (Bool × List RCell)) : Bool := (ownIdx res).all fun j => !frN j
def frOk (P : Program) (cs : Tbl) (σ : St) (pc : Cond) (o : Oper) : Bool :=
  match o.op with
  | .call { callee := .value f, .. } => match getV P σ pc f 0 with
    | some (.one (.dat _ (.fn k _))) => match sigOf cs o.dst k with
      | some sig => frRes sig.res && sig.ob.isNone && noEx sig.res
      | none => false
    | _ => false
  | .call { callee := .builtin .append, args, argTypes } => match args.toList, argTypes.toList with
    | [s, x], [_, t'] => match getV P σ pc s t', getV P σ pc x t' with
      | some (.one (.clip _ u)), _ => u.cells.all Ty.bare
      | _, some sv => freshArg sv
      | _, _ => false
    | _, _ => false
  | .buildSlice .. => match litSCs P σ pc o with
    | some cs => cs.all freshSC
    | none => false
  | _ => true
/-- What an operation does; where what is made is to lean on new blocks alone: if it does. -/
def effOpF (P : Program) (cs : Tbl) (ops : Array Oper) (σ : St) (p : Nat) (o : Oper) : Option Eff :=
  match cs.fr with
  | 0 => effOp P cs ops σ p o
  | 1 => match guardOf ops σ o with
    | some pc => if frOk P cs σ pc o then effOp0 P cs ops σ p o else none
    | none => none
  | _ => if opKind o.op < 3 then effOp0 P cs ops σ p o else none

/-- What a call gives back, in the callee's words. -/
structure OwnD (ex : Bool) (w : World) (base : Nat) (S : Foot) (T : TypeId) (t : Ty) (v : Value) (d : D) : Prop where
  has : Has (.list t) d
  sz : 0 < t.cells.length
  own : ∃ xs l, d = .list l ∧ w.ownsRow base T t.cells.length v l.length xs ∧ (∀ b, v.ownBlock = some b → ∀ o, S b o ↔ ex = false ∧ o < xs.length) ∧
    ∀ (i : Nat) d (j : Nat) v c, l[i]? = some d → d.cells[j]? = some c → xs[i * t.cells.length + j]? = some v → Rep w S v c

def CellOk (w : World) (base : Nat) (S : Foot) (τ : Nat → Value) : RCell → Value → D → Prop
  | (t, none), v, d => Rep w S v d ∧ Has t d
  | (t, some (j, T)), v, d => v = τ j ∧ OwnD (exN j) w base S T t (τ j) d
def CompOk (w : World) (base : Nat) (S : Foot) (τ : Nat → Value) (c : Bool × List RCell) (v : Value) (d : D) : Prop :=
  if c.1 then ∃ (vs : List Value) (ds : List D), v = .agg vs.toArray ∧ d = .agg ds ∧ vs.length = c.2.length ∧ ds.length = c.2.length ∧
    ∀ (i : Nat) x u y, c.2[i]? = some x → vs[i]? = some u → ds[i]? = some y → CellOk w base S τ x u y
  else ∃ x, c.2 = [x] ∧ CellOk w base S τ x v d
def ResOk (w : World) (base : Nat) (S : Foot) (τ : Nat → Value) (res : List (Bool × List RCell)) (v : Value) (d : D) : Prop :=
  (∃ c, res = [c] ∧ CompOk w base S τ c v d) ∨
  (res.length ≠ 1 ∧ ∃ (vs : List Value) (ds : List D), v = .tuple vs.toArray ∧ d = .tup ds ∧ vs.length = res.length ∧ ds.length = res.length ∧
    ∀ (i : Nat) x u y, res[i]? = some x → vs[i]? = some u → ds[i]? = some y → CompOk w base S τ x u y)

/-- An object: what its cells hold. -/
def ObjOk (w : World) (S : Foot) (τ : Nat → Value) (rc : List RCell) (b : Nat) (cells : List D) : Prop :=
  ∃ (vals : List Value) (T : TypeId), w.heap[b]? = some (.cells vals.toArray T (0, 0)) ∧ vals.length = rc.length ∧ cells.length = rc.length ∧
    (∀ (i : Nat) r v d, rc[i]? = some r → vals[i]? = some v → cells[i]? = some d → CellOk w 0 S τ r v d) ∧ ∀ o, ¬ S b o
/-- The arguments' values: data, and pointers to objects, one behind the other. -/
def ArgsO (w : World) (S : Foot) (β : Nat → Nat) : List Bool → Nat → List Value → List D → Prop
  | [], _, [], [] => True
  | true :: sh, o, v :: vs, ds => v = .pointer (some ⟨β o, 0, none⟩) ∧ ArgsO w S β sh (o + 1) vs ds
  | false :: sh, o, v :: vs, d :: ds => Rep w S v d ∧ ArgsO w S β sh o vs ds
  | _, _, _, _ => False
/-- The blocks that a call may write: its objects', and what these own. -/
def MuO (ob : Ob) (β : Nat → Nat) (τ : Nat → Value) (b : Nat) : Prop := (∃ o, o < ob.objs.length ∧ b = β o) ∨ ∃ j, j ∈ ob.inIdx ∧ (τ j).ownBlock = some b
/-- What a call is handed. -/
structure ObjIn (w : World) (S : Foot) (ob : Ob) (β : Nat → Nat) (τ : Nat → Value) (vs : List Value) (dd : List D) (oo : List (List D)) : Prop where
  lt : ∀ b o, S b o → b < w.heap.size
  args : ArgsO w S β ob.shape 0 vs dd
  len : oo.length = ob.objs.length
  objs : ∀ (o : Nat) rc cells, ob.objs[o]? = some rc → oo[o]? = some cells → ObjOk w S τ rc (β o) cells
  inj : ∀ i j, i < ob.objs.length → j < ob.objs.length → β i = β j → i = j
  own : ∀ j k b, j ∈ ob.inIdx → k ∈ ob.inIdx → (τ j).ownBlock = some b → (τ k).ownBlock = some b → j = k
  ownbox : ∀ j o b, j ∈ ob.inIdx → o < ob.objs.length → (τ j).ownBlock = some b → b ≠ β o
def obAt (ob : Ob) (β : Nat → Nat) (βn : Nat) (o : Nat) : Nat := if o < ob.objs.length then β o else βn
/-- What it gives back. -/
structure ObjOut (w : World) (S : Foot) (sig : Sig) (ob : Ob) (β : Nat → Nat) (τ : Nat → Value) (v : Value) (d : D) (w' : World) (S' : Foot) (τ' : Nat → Value) (βn : Nat) : Prop where
  below : BelowX (MuO ob β τ) w w'
  foot : ∀ b o, S b o → S' b o
  lt : ∀ b o, S' b o → b < w'.heap.size
  new : ∀ b o, S' b o → S b o ∨ w.heap.size ≤ b ∨ MuO ob β τ b
  keep : ∀ b o, S b o → w'.cell? ⟨b, o, none⟩ = w.cell? ⟨b, o, none⟩
  res : ∃ (d0 : D) (outs : List (List D)), d = .tup (d0 :: outs.map .agg) ∧ outs.length = ob.outs.length ∧
    (if ob.fresh then v = .pointer (some ⟨βn, 0, none⟩) ∧ w.heap.size ≤ βn else ResOk w' 0 S' τ' sig.res v d0) ∧
    ∀ (o : Nat) rc cells, ob.outs[o]? = some rc → outs[o]? = some cells → ObjOk w' S' τ' rc (obAt ob β βn o) cells
  ownnew : ∀ j b, j ∈ outIdx sig ob → (τ' j).ownBlock = some b → w.heap.size ≤ b ∨ MuO ob β τ b
  own : ∀ j k b, j ∈ outIdx sig ob → k ∈ outIdx sig ob → (τ' j).ownBlock = some b → (τ' k).ownBlock = some b → j = k
  ownbox : ∀ j o b, j ∈ outIdx sig ob → o < ob.outs.length → (τ' j).ownBlock = some b → b ≠ obAt ob β βn o

/-- A slice of integers, behind a call that has written over it: what the call gave, where the slice lies now, what it holds. -/
structure PlOut (w : World) (T : TypeId) (v : Value) (unit : Bool) (ys : List Int) (u v' : Value) (w' : World) : Prop where
  res : if unit then v' = v else u = v'
  own : w'.ownsRow 0 T 1 v' ys.length (ys.map (Value.int .i64))
  blk : v'.ownBlock = v.ownBlock
  below : BelowX (fun b => v.ownBlock = some b) w w'

/-- A function's contract: it gives Φ of what its arguments read as; whatever was there stays as it was, but for the objects that it is handed. -/
structure PureFn (P : Program) (f : Nat) (sig : Sig) (Pre : List D → Prop) (Φ : List D → D) : Prop where
  enter : ∀ (args : Array Value) (w : World), (callFunc f args).run P w = .ok (.enter f args) w
  calls : sig.ob = none → ∀ (w : World) (S : Foot) (vs : List Value) (ds : List D), (∀ b o, S b o → b < w.heap.size) → vs.length = ds.length → (∀ (i : Nat) v d, vs[i]? = some v → ds[i]? = some d → Rep w S v d) →
    HasL (.ofL sig.params) ds → Pre ds →
    Calls P f vs.toArray w fun e w' => ∃ v S' τ, e = .returned v ∧ Below w.heap.size w w' ∧ (∀ b o, S b o → S' b o) ∧ (∀ b o, S' b o → b < w'.heap.size) ∧ (∀ b o, S' b o → S b o ∨ w.heap.size ≤ b) ∧
      ResOk w' 0 S' τ sig.res v (Φ ds) ∧ (∀ j b, j ∈ ownIdx sig.res → (τ j).ownBlock = some b → w.heap.size ≤ b) ∧ (∀ j k b, j ∈ ownIdx sig.res → k ∈ ownIdx sig.res → (τ j).ownBlock = some b → (τ k).ownBlock = some b → j = k) ∧
      ∀ j, j ∈ ownIdx sig.res → frN j = true → FrV (fun b => w.heap.size ≤ b) w' S' (τ j)
  ocalls : ∀ ob, sig.ob = some ob → ob.isPl = false → ∀ (w : World) (S : Foot) (β : Nat → Nat) (τ : Nat → Value) (vs : List Value) (dd : List D) (oo : List (List D)), ObjIn w S ob β τ vs dd oo →
    HasL (.ofL sig.params) (dd ++ oo.flatten) → Pre (dd ++ oo.flatten) →
    Calls P f vs.toArray w fun e w' => ∃ v S' τ' βn, e = .returned v ∧ ObjOut w S sig ob β τ v (Φ (dd ++ oo.flatten)) w' S' τ' βn
  pcalls : ∀ ob, sig.ob = some ob → ob.isPl = true → ∀ (w : World) (T : TypeId) (v : Value) (zs : List Int), w.ownsRow 0 T 1 v zs.length (zs.map (Value.int .i64)) → Has (.list (.int .i64)) (.list (zs.map (D.int .i64))) → Pre [.list (zs.map (D.int .i64))] →
    Calls P f #[v] w fun e w' => ∃ (u v' : Value) (ys : List Int), e = .returned u ∧ Φ [.list (zs.map (D.int .i64))] = .list (ys.map (D.int .i64)) ∧ Has (.list (.int .i64)) (.list (ys.map (D.int .i64))) ∧ PlOut w T v sig.res.isEmpty ys u v' w'

/-- The contract of a function that uses a slice of its own kind, and a map, up. -/
structure EatFn (P : Program) (f : Nat) (sg : EatSig) (Pre : List D → Prop) (Φ : List D → D) : Prop where
  enter : ∀ (args : Array Value) (w : World), (callFunc f args).run P w = .ok (.enter f args) w
  calls : ∀ (w : World) (S : Foot) (vs : List Value) (ds : List D) (vo : Value) (lo : D) (bm : Nat) (lm : D), (∀ b o, S b o → b < w.heap.size) → vs.length = ds.length → (∀ (i : Nat) v d, vs[i]? = some v → ds[i]? = some d → Rep w S v d) →
    HasL (.ofL sg.ps) ds → OwnD true w 0 S sg.T sg.t vo lo → Has (.list sg.kt) lm → MapOk P w bm sg.TM sg.kt lm.toL → (∀ o, ¬ S bm o) → Pre (ds ++ [lo, lm]) →
    Calls P f (vs ++ [vo, .map (some bm)]).toArray w fun e w' => ∃ v S', e = .returned v ∧ BelowX (fun b => vo.ownBlock = some b ∨ b = bm) w w' ∧ (∀ b o, S b o → S' b o) ∧ (∀ b o, S' b o → b < w'.heap.size) ∧
      (∀ b o, S' b o → S b o ∨ w.heap.size ≤ b ∨ vo.ownBlock = some b ∨ b = bm) ∧ (∀ b o, S b o → w'.cell? ⟨b, o, none⟩ = w.cell? ⟨b, o, none⟩) ∧ OwnD true w' 0 S' sg.T sg.t v (Φ (ds ++ [lo, lm])) ∧
      ∀ b, v.ownBlock = some b → w.heap.size ≤ b ∨ vo.ownBlock = some b ∨ b = bm

/-- What operations need of a function's table, and of what its call was given. -/
structure Env1 (P : Program) (cs : Tbl) (S0 : Base) (Φ : Nat → List D → D) (Pre : Nat → List D → Prop) : Prop where
  fr : S0.fr → cs.fr = 1
  wz : S0.wz → cs.fr = 2
  prog : S0.prog = P
  keys : ∀ T kt, lk cs.mp T = some kt → KeyOk P T kt
  eat : ∀ k sg, lk cs.et k = some sg → EatFn P k sg (Pre k) (Φ k)

theorem rep_bare {w w' : World} {S S' : Foot} {t : Ty} {v : Value} {d : D} (hb : t.bare = true) (ht : Has t d) (h : Rep w S v d) : Rep w' S' v d := by
  cases t <;> simp [Ty.bare] at hb
  · obtain ⟨n, rfl, _⟩ := has_int.1 ht; rw [h.inv_int]; exact .int _ _
  · obtain ⟨n, rfl⟩ := has_bool.1 ht; rw [h.inv_bool]; exact .bool _
  · obtain ⟨n, rfl⟩ := has_str.1 ht; rw [h.inv_str]; exact .str _

theorem exN_add (j : Nat) : exN (j + 1000) = true := by unfold exN; exact decide_eq_true (by omega)

theorem ownIdx_exRes (res : List (Bool × List RCell)) : ownIdx (exRes res) = (ownIdx res).map (· + 1000) := by
  induction res with
  | nil => rfl
  | cons c r ih =>
    have h1 : ∀ l : List RCell, (l.map exCell).filterMap (fun x => x.2.map (·.1)) = (l.filterMap (fun x => x.2.map (·.1))).map (· + 1000) := by
      intro l
      induction l with
      | nil => rfl
      | cons a l ih2 =>
        obtain ⟨t, o⟩ := a
        cases o with
        | none => simpa [exCell] using ih2
        | some y => simp only [List.map_cons, exCell, List.filterMap_cons, Option.map_some, ih2]
    have e1 : ownIdx (exRes (c :: r)) = (c.2.map exCell).filterMap (fun x => x.2.map (·.1)) ++ ownIdx (exRes r) := rfl
    have e2 : ownIdx (c :: r) = c.2.filterMap (fun x => x.2.map (·.1)) ++ ownIdx r := rfl
    rw [e1, e2, ih, h1, List.map_append]

theorem cellOk_ex {w w0 : World} {S S' : Foot} {τ : Nat → Value} {c : RCell} {v : Value} {d : D} (hb : c.bare = true) (hS : ∀ b o, S b o → b < w0.heap.size)
    (hnew : ∀ T j, c.2 = some (j, T) → ∀ b, (τ j).ownBlock = some b → w0.heap.size ≤ b) (h : CellOk w 0 S' τ c v d) :
    CellOk w 0 S (fun j => τ (j - 1000)) (exCell c) v d := by
  obtain ⟨t, o⟩ := c
  cases o with
  | none =>
    obtain ⟨h1, h2⟩ := h
    exact ⟨rep_bare hb h2 h1, h2⟩
  | some y =>
    obtain ⟨j, T⟩ := y
    obtain ⟨h1, h2⟩ := h
    have hb' : t.cells.all Ty.bare = true := hb
    rw [List.all_eq_true] at hb'
    refine ⟨by rw [h1]; simp, ?_⟩
    have e1 : (fun j => τ (j - 1000)) (j + 1000) = τ j := by simp
    rw [e1, exN_add]
    obtain ⟨k1, k2, xs, l, hl, hown, hf, hr⟩ := h2
    refine ⟨k1, k2, xs, l, hl, hown, ?_, ?_⟩
    · intro b hb2 o
      refine ⟨fun hs => ?_, fun hs => Bool.noConfusion hs.1⟩
      have h3 := hS b o hs
      have h4 := hnew T j rfl b hb2
      omega
    · intro i x k u y h3 h4 h5
      obtain ⟨l', hl', _, hx⟩ := has_list.1 k1
      rw [hl] at hl'
      injection hl' with hl'
      subst hl'
      have hxt := hx x (List.mem_of_getElem? h3)
      obtain ⟨h6, h7⟩ := has_cells hxt
      have hk : k < t.cells.length := by rw [← h6]; exact (List.getElem?_eq_some_iff.1 h4).1
      have hu : t.cells[k]? = some t.cells[k] := List.getElem?_eq_getElem hk
      obtain ⟨z, hz, hzt⟩ := h7 k _ hu
      rw [h4] at hz
      injection hz with hz
      subst hz
      exact rep_bare (hb' _ (List.getElem_mem hk)) hzt (hr i x k u y h3 h4 h5)

theorem compOk_ex {w w0 : World} {S S' : Foot} {τ : Nat → Value} {c : Bool × List RCell} {v : Value} {d : D} (hb : (c.2.all RCell.bare) = true) (hS : ∀ b o, S b o → b < w0.heap.size)
    (hnew : ∀ x ∈ c.2, ∀ T j, x.2 = some (j, T) → ∀ b, (τ j).ownBlock = some b → w0.heap.size ≤ b) (h : CompOk w 0 S' τ c v d) :
    CompOk w 0 S (fun j => τ (j - 1000)) (c.1, c.2.map exCell) v d := by
  rw [List.all_eq_true] at hb
  unfold CompOk at *
  split
  · rename_i hc
    rw [if_pos hc] at h
    obtain ⟨vs, ds, h1, h2, h3, h4, h5⟩ := h
    refine ⟨vs, ds, h1, h2, by simpa using h3, by simpa using h4, fun i x u y hx hu hy => ?_⟩
    simp only [List.getElem?_map, Option.map_eq_some_iff] at hx
    obtain ⟨x0, hx0, rfl⟩ := hx
    exact cellOk_ex (hb _ (List.mem_of_getElem? hx0)) hS (hnew x0 (List.mem_of_getElem? hx0)) (h5 i x0 u y hx0 hu hy)
  · rename_i hc
    rw [if_neg hc] at h
    obtain ⟨x, hx, h1⟩ := h
    refine ⟨exCell x, by simp [hx], ?_⟩
    have hm : x ∈ c.2 := by rw [hx]; simp
    exact cellOk_ex (hb x hm) hS (hnew x hm) h1

theorem ResOk.ownD {w : World} {base : Nat} {S : Foot} {τ : Nat → Value} {res : List (Bool × List RCell)} {v : Value} {d : D} (h : ResOk w base S τ res v d) {j : Nat} (hj : j ∈ ownIdx res) :
    ∃ (t : Ty) (T : TypeId) (d' : D), OwnD (exN j) w base S T t (τ j) d' ∧ ∃ c ∈ res, (t, some (j, T)) ∈ c.2 := by
  obtain ⟨c, hc, hj⟩ := List.mem_flatMap.1 hj
  obtain ⟨⟨t, x⟩, hx, hxj⟩ := List.mem_filterMap.1 hj
  simp only [Option.map_eq_some_iff] at hxj
  obtain ⟨⟨j', T⟩, rfl, rfl⟩ := hxj
  have comp : ∀ v d, CompOk w base S τ c v d → ∃ d', OwnD (exN j') w base S T t (τ j') d' := by
    intro v d h
    unfold CompOk at h
    split at h
    · obtain ⟨vs, ds, _, _, h1, h2, h3⟩ := h
      obtain ⟨i, hi⟩ := List.getElem?_of_mem hx
      have hil : i < c.2.length := (List.getElem?_eq_some_iff.1 hi).1
      exact ⟨_, (h3 i _ _ _ hi (List.getElem?_eq_getElem (by omega)) (List.getElem?_eq_getElem (by omega))).2⟩
    · obtain ⟨y, hy, h3⟩ := h
      rw [hy] at hx
      simp only [List.mem_singleton] at hx
      subst hx
      exact ⟨_, h3.2⟩
  rcases h with ⟨c', hc', h⟩ | ⟨_, vs, ds, _, _, h1, h2, h3⟩
  · rw [hc'] at hc
    simp only [List.mem_singleton] at hc
    subst hc
    obtain ⟨d', h'⟩ := comp _ _ h
    exact ⟨t, T, d', h', c, by rw [hc']; simp, hx⟩
  · obtain ⟨i, hi⟩ := List.getElem?_of_mem hc
    have hil : i < res.length := (List.getElem?_eq_some_iff.1 hi).1
    obtain ⟨d', h'⟩ := comp _ _ (h3 i _ _ _ hi (List.getElem?_eq_getElem (by omega)) (List.getElem?_eq_getElem (by omega)))
    exact ⟨t, T, d', h', c, hc, hx⟩
/-- Only the results' own slices are told. -/
def saneτ (res : List (Bool × List RCell)) (τ : Nat → Value) : Nat → Value := fun j => if j ∈ ownIdx res then τ j else .nilIface
theorem ResOk.sane {w : World} {base : Nat} {S : Foot} {τ : Nat → Value} {res : List (Bool × List RCell)} {v : Value} {d : D} (h : ResOk w base S τ res v d) : ResOk w base S (saneτ res τ) res v d := by
  have comp : ∀ c ∈ res, ∀ v d, CompOk w base S τ c v d → CompOk w base S (saneτ res τ) c v d := by
    intro c hc v d h
    have cell : ∀ x ∈ c.2, ∀ v d, CellOk w base S τ x v d → CellOk w base S (saneτ res τ) x v d := by
      rintro ⟨t, x⟩ hx v d h
      cases x with
      | none => exact h
      | some y =>
        obtain ⟨j, T⟩ := y
        have hj : j ∈ ownIdx res := List.mem_flatMap.2 ⟨c, hc, List.mem_filterMap.2 ⟨_, hx, rfl⟩⟩
        have e1 : saneτ res τ j = τ j := if_pos hj
        show v = saneτ res τ j ∧ OwnD (exN j) w base S T t (saneτ res τ j) d
        rw [e1]; exact h
    unfold CompOk at *
    split
    · rename_i h1
      rw [if_pos h1] at h
      obtain ⟨vs, ds, a1, a2, a3, a4, a5⟩ := h
      exact ⟨vs, ds, a1, a2, a3, a4, fun i x u y hx hu hy => cell x (List.mem_of_getElem? hx) u y (a5 i x u y hx hu hy)⟩
    · rename_i h1
      rw [if_neg h1] at h
      obtain ⟨x, hx, h2⟩ := h
      exact ⟨x, hx, cell x (by rw [hx]; simp) _ _ h2⟩
  rcases h with ⟨c, hc, h⟩ | ⟨h0, vs, ds, a1, a2, a3, a4, a5⟩
  · exact .inl ⟨c, hc, comp c (by rw [hc]; simp) _ _ h⟩
  · exact .inr ⟨h0, vs, ds, a1, a2, a3, a4, fun i x u y hx hu hy => comp x (List.mem_of_getElem? hx) u y (a5 i x u y hx hu hy)⟩

theorem valIn_bare {w : World} {S : Foot} {X : Nat → Prop} {t : Ty} {v : Value} {d : D} (hb : t.bare = true) (ht : Has t d) (h : Rep w S v d) : ValIn X v := by
  cases t <;> simp [Ty.bare] at hb
  · obtain ⟨n, rfl, _⟩ := has_int.1 ht; rw [h.inv_int]; trivial
  · obtain ⟨n, rfl⟩ := has_bool.1 ht; rw [h.inv_bool]; trivial
  · obtain ⟨n, rfl⟩ := has_str.1 ht; rw [h.inv_str]; trivial
/-- Cells of elements of numbers and the like. -/
theorem valIn_elems {w : World} {S : Foot} {X : Nat → Prop} {t : Ty} {l : List D} {xs : List Value} (hb : (t.cells.all Ty.bare) = true) (hpos : 0 < t.cells.length) (hall : ∀ x ∈ l, Has t x) (hlen : xs.length = l.length * t.cells.length)
    (hr : ∀ (i : Nat) d (j : Nat) v c, l[i]? = some d → d.cells[j]? = some c → xs[i * t.cells.length + j]? = some v → Rep w S v c) : ∀ u ∈ xs, ValIn X u := by
  intro u hu
  obtain ⟨q, hq⟩ := List.getElem?_of_mem hu
  have hql : q < xs.length := (List.getElem?_eq_some_iff.1 hq).1
  have hi : q / t.cells.length < l.length := by rw [Nat.div_lt_iff_lt_mul hpos, ← hlen]; exact hql
  have hj : q % t.cells.length < t.cells.length := Nat.mod_lt _ hpos
  have hd : l[q / t.cells.length]? = some (l[q / t.cells.length]'hi) := List.getElem?_eq_getElem hi
  have hty : t.cells[q % t.cells.length]? = some (t.cells[q % t.cells.length]'hj) := List.getElem?_eq_getElem hj
  obtain ⟨cc, hcc, hcc2⟩ := (has_cells (hall _ (List.mem_of_getElem? hd))).2 _ _ hty
  have hqq : q / t.cells.length * t.cells.length + q % t.cells.length = q := by rw [Nat.mul_comm]; exact Nat.div_add_mod _ _
  exact valIn_bare (List.all_eq_true.1 hb _ (List.getElem_mem hj)) hcc2 (hr _ _ _ u cc hd hcc (by rw [hqq]; exact hq))
theorem frV_ownD {w w0 : World} {S0 : Base} {S : Foot} {T : TypeId} {t : Ty} {v : Value} {d : D} (hb : (t.cells.all Ty.bare) = true) (hnew : ∀ b, v.ownBlock = some b → NewB w0 S0 b) (h : OwnD false w 0 S T t v d) : FrV (NewB w0 S0) w S v := by
  intro a n cap hv
  obtain ⟨hhas, hsz, xs, l, rfl, hown, hS, hr⟩ := h
  obtain ⟨l', hl', _, hall⟩ := has_list.1 hhas
  injection hl' with hl'; subst hl'
  rcases hown.2 with ⟨hn, _⟩ | ⟨b, cap', cur, hv', _⟩
  · rw [hn]; exact .inl rfl
  · have hob : v.ownBlock = some b := by rw [hv']; rfl
    rw [hv']
    by_cases hl : l.length = 0
    · exact .inl hl
    · refine .inr ⟨b, 0, rfl, fun b' => b' = b, ?_, rfl⟩
      rintro b' rfl
      have hpos : 0 < xs.length := by rw [hown.1]; exact Nat.mul_pos (by omega) hsz
      have hcz : ∃ cur T, w.heap[b']? = some (.cells cur T (0, 0)) := by
        rcases hown.2 with ⟨hn, _⟩ | ⟨b2, cap2, cur2, hv2, _, hg2, _⟩
        · rw [hn] at hob; cases hob
        · rw [hv2] at hob
          simp only [Value.ownBlock, Option.some.injEq] at hob
          subst hob
          exact ⟨_, _, hg2⟩
      refine ⟨hnew b' hob, ⟨0, (hS b' hob 0).2 ⟨rfl, hpos⟩⟩, hcz, fun o u hs hu => ?_⟩
      have ho := ((hS b' hob o).1 hs).2
      have h3 := hown.cells (g := b') hob o xs[o] (List.getElem?_eq_getElem ho)
      rw [addr_add, Nat.zero_add, hu] at h3
      injection h3 with h3
      subst h3
      exact valIn_elems hb hsz hall hown.1 hr _ (List.getElem_mem ho)
/-- The results of a call whose own slices are of numbers and the like. -/
theorem ResOk.fresh {w w0 : World} {S0 : Base} {S : Foot} {τ : Nat → Value} {res : List (Bool × List RCell)} {v : Value} {d : D} (h : ResOk w 0 S τ res v d) (hb : frRes res = true) (hx : noEx res = true)
    (hnew : ∀ j b, j ∈ ownIdx res → (τ j).ownBlock = some b → NewB w0 S0 b) (hfrn : ∀ j, j ∈ ownIdx res → frN j = true → FrV (NewB w0 S0) w S (τ j)) : ∀ j, FrV (NewB w0 S0) w S (saneτ res τ j) := by
  intro j
  unfold saneτ
  split
  · rename_i hj
    obtain ⟨t, T, d', h1, c, hc, hm⟩ := h.ownD hj
    have hbt := List.all_eq_true.1 (List.all_eq_true.1 hb c hc) _ hm
    have hxt := List.all_eq_true.1 (List.all_eq_true.1 hx c hc) _ hm
    have hex : exN j = false := by simpa using hxt
    rw [hex] at h1
    have hbt' : (t.cells.all Ty.bare || frN j) = true := hbt
    rcases (Bool.or_eq_true _ _).mp hbt' with hbt' | hbt'
    · exact frV_ownD hbt' (fun b hb' => hnew j b hj hb') h1
    · exact hfrn j hj hbt'
  · exact FrV.nilIface

theorem freshSC_val {C : Cx} {w : World} {G : Gh} {N : Nat → Prop} {c : SC} {v : Value} (hf : freshSC c = true) (hfr : ∀ g, FrV N w G.S (G.τ g)) (hr : RSC C w G c v) : ValIn (FrB N w G.S) v := by
  cases c with
  | dat e t => exact valIn_bare hf hr.2.2 hr.2.1
  | nils t => simp only [RSC] at hr; subst hr; exact .inl rfl
  | own g e t =>
    obtain ⟨_, _, h3, h4, h5⟩ := hr
    obtain ⟨l, hl, _⟩ := has_list.1 h4
    rw [hl] at h3
    obtain ⟨a, cap, hv⟩ := h3.inv_list
    exact h5 ▸ hfr g a _ cap (by rw [← h5]; exact hv)
  | _ => cases hf
/-- The elements of a slice that lies in such blocks. -/
theorem valIn_news {w : World} {S : Foot} {N : Nat → Prop} {v : Value} {l : List D} {A : Option Addr} {k c : Nat} {news : List Value} (hv : ValIn (FrB N w S) v) (h : Rep w S v (.list l)) (hk : ∀ d ∈ l, d.cells.length = k) (hxv : v = .slice A l.length c)
    (hnl : news.length = l.length * k) (hnc : ∀ ad, A = some ad → ∀ (j : Nat) u, news[j]? = some u → w.cell? (ad.add j) = some u) : ∀ u ∈ news, ValIn (FrB N w S) u := by
  intro u hu
  obtain ⟨q, hq⟩ := List.getElem?_of_mem hu
  have hql : q < news.length := (List.getElem?_eq_some_iff.1 hq).1
  cases h with
  | nil ad cap => rw [hnl] at hql; simp at hql
  | list b off cap sz xs _ hsz hne hcap hl hS hc hw hr =>
    have hszk : sz = k := by
      cases hds : l with
      | nil => exact absurd hds hne
      | cons d r => rw [← hw 0 d (by rw [hds]; rfl)]; exact hk d (by rw [hds]; simp)
    subst hszk
    injection hxv with h1 h2 h3
    rcases hv with hv | ⟨b', o', h5, h6⟩
    · exact absurd (List.eq_nil_of_length_eq_zero hv) hne
    · simp only [Option.some.injEq, Addr.mk.injEq] at h5
      obtain ⟨rfl, rfl, _⟩ := h5
      have h7 := hnc _ h1.symm q u hq
      rw [addr_add] at h7
      exact (FrB.set N w S b h6).2.2.2 _ u (hS q (by omega)) h7

theorem mem_ownIdx {res : List (Bool × List RCell)} {c : Bool × List RCell} {x : RCell} {j : Nat} {T : TypeId} (hc : c ∈ res) (hx : x ∈ c.2) (h : x.2 = some (j, T)) : j ∈ ownIdx res :=
  List.mem_flatMap.2 ⟨c, hc, List.mem_filterMap.2 ⟨x, hx, by rw [h]; rfl⟩⟩

theorem PureFn.toEx {P : Program} {f : Nat} {sig : Sig} {Pre : List D → Prop} {Φ : List D → D} (h : PureFn P f sig Pre Φ) (hob : sig.ob = none) (hb : bareRes sig.res = true) : PureFn P f (exSig sig) Pre Φ := by
  refine ⟨h.enter, fun _ w S vs ds hS hlen hrep hty hpre => ?_, fun ob h1 => ?_, fun ob h1 => ?_⟩
  · refine (h.calls hob w S vs ds hS hlen hrep hty hpre).mono ?_
    rintro e w' ⟨v, S', τ, rfl, hbel, h1, h2, h3, h4, h5, h6, _⟩
    unfold bareRes at hb
    rw [List.all_eq_true] at hb
    refine ⟨v, S, fun j => τ (j - 1000), rfl, hbel, fun _ _ h => h, fun b o hs => Nat.lt_of_lt_of_le (hS b o hs) hbel.size, fun _ _ h => .inl h, ?_, ?_, ?_, ?_⟩
    · have hnew : ∀ c ∈ sig.res, ∀ x ∈ c.2, ∀ T j, x.2 = some (j, T) → ∀ b, (τ j).ownBlock = some b → w.heap.size ≤ b :=
        fun c hc x hx T j hj b hb2 => h5 j b (mem_ownIdx hc hx hj) hb2
      rcases h4 with ⟨c, hc, h4⟩ | ⟨hne, vs', ds', h7, h8, h9, h10, h11⟩
      · refine .inl ⟨(c.1, c.2.map exCell), by simp [exSig, exRes, hc], ?_⟩
        have hm : c ∈ sig.res := by rw [hc]; simp
        exact compOk_ex (hb c hm) hS (hnew c hm) h4
      · refine .inr ⟨by simpa [exSig, exRes] using hne, vs', ds', h7, h8, by simpa [exSig, exRes] using h9, by simpa [exSig, exRes] using h10, fun i x u y hx hu hy => ?_⟩
        simp only [exSig, exRes, List.getElem?_map, Option.map_eq_some_iff] at hx
        obtain ⟨c, hc, rfl⟩ := hx
        have hm := List.mem_of_getElem? hc
        exact compOk_ex (hb c hm) hS (hnew c hm) (h11 i c u y hc hu hy)
    · intro j b hj hjb
      have hj' : j ∈ (ownIdx sig.res).map (· + 1000) := by rw [← ownIdx_exRes]; exact hj
      obtain ⟨k, hk, rfl⟩ := List.mem_map.1 hj'
      exact h5 k b hk (by simpa using hjb)
    · intro j k b hj hk hjb hkb
      have hj' : j ∈ (ownIdx sig.res).map (· + 1000) := by rw [← ownIdx_exRes]; exact hj
      have hk' : k ∈ (ownIdx sig.res).map (· + 1000) := by rw [← ownIdx_exRes]; exact hk
      obtain ⟨j0, hj0, rfl⟩ := List.mem_map.1 hj'
      obtain ⟨k0, hk0, rfl⟩ := List.mem_map.1 hk'
      rw [h6 j0 k0 b hj0 hk0 (by simpa using hjb) (by simpa using hkb)]
    · intro j hj hfj
      have hj' : j ∈ (ownIdx sig.res).map (· + 1000) := by rw [← ownIdx_exRes]; exact hj
      obtain ⟨k, _, rfl⟩ := List.mem_map.1 hj'
      exfalso
      unfold frN at hfj
      simp only [Bool.and_eq_true, decide_eq_true_eq] at hfj
      omega
  · exact absurd h1 (by show sig.ob ≠ some ob; rw [hob]; simp)
  · exact absurd h1 (by show sig.ob ≠ some ob; rw [hob]; simp)

theorem sigOf_ok {P : Program} {cs : Tbl} {Φ : Nat → List D → D} {Pre : Nat → List D → Prop} {dst : Option Nat} {k : Nat} {sig : Sig} (h : sigOf cs dst k = some sig) (hcon : ∀ k sig, lk cs.l k = some sig → PureFn P k sig (Pre k) (Φ k)) : PureFn P k sig (Pre k) (Φ k) := by
  unfold sigOf at h
  split at h
  · rename_i s hs
    split at h
    · rename_i hc
      injection h with h; subst h
      exact (hcon k s hs).toEx hc.2.1 hc.2.2
    · injection h with h; subst h; exact hcon k _ hs
  · cases h

end Go.Eng
/- Maps: a new one; what one was given; what one is asked. -/
namespace Go.Eng
open Go Go.RowKit

section
variable {P : Program} {C : Cx} {w w0 : World} {S0 : Base} {G : Gh} {σ : St} {a : Act} {o : Oper} {pc : Cond} {s : SV} {is : List Item} {Φ : Nat → List D → D} {Pre : Nat → List D → Prop} {n p : Nat}

/-- A new map. -/
theorem SimM.allocMap (h : SimM w0 S0 C G σ w) (hp : ¬ C.M p) {kt : Ty} {T : TypeId} (hk : KeyOk S0.prog T kt) :
    Later C w G (C.add p) (w.alloc (.map #[] 0)) { G with β := upd G.β p w.heap.size } ∧
    SimM w0 S0 (C.add p) { G with β := upd G.β p w.heap.size } { σ with hp := upd σ.hp p (some (false, [.mcon .nil kt T])) } (w.alloc (.map #[] 0)) := by
  have hlat : Later C w G (C.add p) (w.alloc (.map #[] 0)) { G with β := upd G.β p w.heap.size } :=
    ⟨fun _ h => ⟨rfl, h⟩, fun _ h => .inl h, fun _ _ h => h, fun b o hs => World.cell?_alloc_lt w _ _ (h.footlt b o hs),
      fun i hi => upd_ne _ _ (fun e => hp (e ▸ hi)), fun _ _ => rfl⟩
  refine ⟨hlat, ?_⟩
  have hb := h.base_le
  refine ⟨h.below.alloc _, h.foot0, h.keep_later hlat, h.pin_later hlat, h.pinmu, fun b o hs => by simpa using Nat.lt_succ_of_lt (h.footlt b o hs), h.footnew, ?_, ?_, ?_, ?_, h.ownnew, ?_, ?_, h.fresh_later hlat rfl (fun b o hs => Below.heap_alloc w _ _ (h.footlt b o hs)) (fun _ _ h _ => h), fun hz b o hs => by
    obtain ⟨cur, T, hcur⟩ := h.wz hz b o hs
    exact ⟨cur, T, (Below.heap_alloc w _ _ (h.footlt b o hs)).trans hcur⟩⟩
  · intro id x hx
    by_cases hid : id = p
    · exact .inr hid
    · simp only [upd_ne _ _ hid] at hx; exact .inl (h.boxM id x hx)
  · intro id ro cs' hx
    by_cases hid : id = p
    · subst hid
      simp only [upd_same, Option.some.injEq, Prod.mk.injEq] at hx
      obtain ⟨rfl, rfl⟩ := hx
      refine ⟨by simp only [upd_same]; exact .inl hb, rfl, ?_, ?_⟩
      · simp only [upd_same]
        exact ⟨rfl, has_list.2 ⟨[], rfl, lenOk_zero _, by simp⟩, mapOk_made hk w⟩
      · simp only [upd_same, Bool.false_eq_true, if_false]
        intro o ho
        exact absurd (h.footlt _ _ ho) (by omega)
    · simp only [upd_ne _ _ hid] at hx
      obtain ⟨h1, h2, h3, h5⟩ := h.box id ro cs' hx
      simp only [upd_ne _ _ hid]
      exact ⟨h1, h2, h3.later hlat (Below.heap_alloc w _ _ (h.box_lt hx)), h5⟩
  · intro i j x y hi hj he
    by_cases hip : i = p
    · by_cases hjp : j = p
      · rw [hip, hjp]
      · subst hip
        simp only [upd_same, upd_ne _ _ hjp] at he hj
        have := h.box_lt hj
        omega
    · by_cases hjp : j = p
      · subst hjp
        simp only [upd_same, upd_ne _ _ hip] at he hi
        have := h.box_lt hi
        omega
      · simp only [upd_ne _ _ hip, upd_ne _ _ hjp] at he hi hj
        exact h.inj i j x y hi hj he
  · intro g e T' t hx
    have ho := h.own g e T' t hx
    exact ho.later hlat (fun b hb' => Below.heap_alloc w _ _ (ho.lt_heap b hb').2) (fun _ _ _ h => h)
  · exact h.ownne
  · intro g id x y b hx hy hb'
    by_cases hid : id = p
    · subst hid
      simp only [upd_same]
      have := ((h.own g x.1 x.2.1 x.2.2 hx).lt_heap b hb').2
      omega
    · simp only [upd_ne _ _ hid] at hy ⊢
      exact h.ownbox g id x y b hx hy hb'

/-- A map was given a key. -/
theorem SimM.setMap (h : SimM w0 S0 C G σ w) {id : Nat} {cs0 : List SC} (hid : σ.hp id = some (false, cs0)) {e : E} {kt : Ty} {T : TypeId} {w' : World} (hg : w.grownBy w' (some (G.β id)))
    (hok : e.lt C.N = true ∧ Has (.list kt) (den C.ρ e) ∧ MapOk S0.prog w' (G.β id) T kt (den C.ρ e).toL) :
    Later C w G C w' G ∧ SimM w0 S0 C G { σ with hp := upd σ.hp id (some (false, [.mcon e kt T])) } w' := by
  obtain ⟨hb, _, hblk, hns⟩ := h.box id false cs0 hid
  simp only [Bool.false_eq_true, if_false] at hns
  have hother : ∀ k, k < w.heap.size → k ≠ G.β id → w'.heap[k]? = w.heap[k]? := fun k hl hk => hg.block k hl (fun e => hk (by injection e))
  have hlat : Later C w G C w' G :=
    ⟨fun _ h => ⟨rfl, h⟩, fun _ h => h, fun _ _ h => h, fun b o hs => World.cell?_of_block (hother b (h.footlt b o hs) (fun e => hns o (e ▸ hs))), fun _ _ => rfl, fun _ _ => rfl⟩
  refine ⟨hlat, ?_⟩
  have hsz := hg.size
  have hbl := h.base_le
  refine ⟨?_, h.foot0, h.keep_later hlat, h.pin_later hlat, h.pinmu, fun b o hs => Nat.lt_of_lt_of_le (h.footlt b o hs) hsz, h.footnew, ?_, ?_, ?_, ?_, h.ownnew, h.ownne, ?_, h.fresh_later hlat rfl (fun b o hs => hother b (h.footlt b o hs) (fun e => hns o (e ▸ hs))) (fun _ _ h _ => h), fun hz b o hs => by
    obtain ⟨cur, T, hcur⟩ := h.wz hz b o hs
    exact ⟨cur, T, (hother b (h.footlt b o hs) (fun e => hns o (e ▸ hs))).trans hcur⟩⟩
  · refine ⟨hg.os.trans h.below.os, hg.tape.trans h.below.tape, hg.output.trans h.below.output, Nat.le_trans h.below.size hsz, fun k hk hm => (hother k (by omega) ?_).trans (h.below.block k hk hm)⟩
    rintro rfl
    rcases h.newB hb with hb | hb
    · omega
    · exact hm hb
  · intro i x hx
    by_cases hi : i = id
    · subst hi; exact h.boxM _ _ hid
    · simp only [upd_ne _ _ hi] at hx; exact h.boxM i x hx
  · intro i ro cs' hx
    by_cases hi : i = id
    · subst hi
      simp only [upd_same, Option.some.injEq, Prod.mk.injEq] at hx
      obtain ⟨rfl, rfl⟩ := hx
      refine ⟨hb, rfl, hok, ?_⟩
      simp only [Bool.false_eq_true, if_false]; exact hns
    · simp only [upd_ne _ _ hi] at hx
      obtain ⟨h1, h2, h3, h5⟩ := h.box i ro cs' hx
      exact ⟨h1, h2, h3.later hlat (hother _ (h.box_lt hx) (fun e => hi (h.inj _ _ _ _ hx hid e))), h5⟩
  · intro i j x y hi hj he
    have pres : ∀ i x, (upd σ.hp id (some (false, [.mcon e kt T]))) i = some x → ∃ x', σ.hp i = some x' := by
      intro i x hx
      by_cases hii : i = id
      · exact ⟨_, hii ▸ hid⟩
      · exact ⟨x, by rw [upd_ne _ _ hii] at hx; exact hx⟩
    obtain ⟨x', hx'⟩ := pres i x hi
    obtain ⟨y', hy'⟩ := pres j y hj
    exact h.inj i j x' y' hx' hy' he
  · intro g e T' t hx
    have ho := h.own g e T' t hx
    exact ho.later hlat (fun b hb' => hother b (ho.lt_heap b hb').2 (h.ownbox g id _ _ b hx hid hb')) (fun _ _ _ h => h)
  · intro g i x y b hx hy hb'
    by_cases hii : i = id
    · subst hii; exact h.ownbox g i x _ b hx hid hb'
    · simp only [upd_ne _ _ hii] at hy; exact h.ownbox g i x y b hx hy hb'

theorem opLook_ok {rd : List Nat} (hm : SimM w0 S0 C G σ w) (ht : SimT C w G σ.tm a) (hpc : condB C.ρ pc = true) (hP : S0.prog = P) (h : opLook P σ pc o = some ((s, is), rd)) : Gives P C w G a o s := by
  unfold opLook at h
  split at h
  · rename_i T m x ho
    split at h
    · rename_i id ek kt hgm hgx
      split at h
      · rename_i ro cs hid
        split at h
        · rename_i e kt' T' hmap
          split at h
          · rename_i hc
            obtain ⟨rfl, rfl⟩ := hc
            injection h with h; simp only [Prod.mk.injEq] at h; obtain ⟨⟨rfl, rfl⟩, rfl⟩ := h
            obtain ⟨_, _, hblk, _⟩ := hm.box _ _ _ hid
            unfold BlkOk at hblk
            rw [hmap] at hblk
            obtain ⟨k1, k2, k3⟩ := hblk
            obtain ⟨q1, q2, q3⟩ := getD_ok ht hpc hgx
            have hv := (getV_ok ht hpc hgm).2
            rw [hP] at k3
            have hrun := k3.lookup q2 q3
            refine ⟨.bool ((den C.ρ e).toL.any fun z => z.keq (den C.ρ ek)), ?_, ?_⟩
            · unfold execOp; simp only [ho, hv]
              rw [Sem.run_bind, hrun]; rfl
            · exact ⟨by simp [E.lt, k1, q1], .bool _, has_bool.2 ⟨_, rfl⟩⟩
          · cases h
        · cases h
      · cases h
    · cases h
  · cases h
end
end Go.Eng
/- One operation of a region, symbolically: that it does what its effect says. -/
namespace Go.Eng
open Go Go.RowKit

section
variable {α β : Type} [DecidableEq α]
theorem updL_nil (h : α → β) : updL h [] = h := by funext x; rfl
theorem updL_cons (h : α → β) (k : α) (v : β) (l : List (α × β)) : updL h ((k, v) :: l) = fun x => if x = k then v else updL h l x := by
  funext x
  simp only [updL, lk]
  split <;> rename_i h1
  · by_cases hx : x = k
    · rw [if_pos hx] at h1; injection h1 with h1; rw [if_pos hx, h1]
    · rw [if_neg hx] at h1; rw [if_neg hx, h1]
  · by_cases hx : x = k
    · rw [if_pos hx] at h1; cases h1
    · rw [if_neg hx] at h1; rw [if_neg hx, h1]
theorem updL_one (h : Nat → β) (k : Nat) (v : β) : updL h [(k, v)] = upd h k v := by
  rw [updL_cons]; funext x; simp only [updL_nil, upd]
theorem lk_mem : ∀ {l : List (α × β)} {x : α} {v : β}, lk l x = some v → (x, v) ∈ l
  | [], _, _, h => by cases h
  | (k, u) :: r, x, v, h => by
    simp only [lk] at h
    split at h
    · rename_i hx; injection h with h; subst h; subst hx; simp
    · exact List.mem_cons_of_mem _ (lk_mem h)
end

section
variable {P : Program} {C : Cx} {w w0 : World} {S0 : Base} {G : Gh} {σ : St} {a : Act} {o : Oper} {pc : Cond} {s : SV} {is : List Item} {Φ : Nat → List D → D} {Pre : Nat → List D → Prop} {n p : Nat}

theorem SimM.congr {σ' : St} (h : SimM w0 S0 C G σ w) (h1 : σ'.hp = σ.hp) (h2 : σ'.live = σ.live) : SimM w0 S0 C G σ' w := by
  obtain ⟨tm, hp, live⟩ := σ
  obtain ⟨tm', hp', live'⟩ := σ'
  simp only at h1 h2
  subst h1; subst h2
  exact ⟨h.below, h.foot0, h.keep, h.pin, h.pinmu, h.footlt, h.footnew, h.boxM, h.box, h.inj, h.own, h.ownnew, h.ownne, h.ownbox, h.fresh, h.wz⟩

theorem opPlain_ok {rd : List Nat} (hm : SimM w0 S0 C G σ w) (ht : SimT C w G σ.tm a) (hpc : condB C.ρ pc = true) (hP : S0.prog = P) (h : opPlain P σ pc o = some ((s, is), rd)) (hit : ∀ it ∈ is, ItemOk C Φ Pre it) : Gives P C w G a o s := by
  unfold opPlain at h
  have strip : ∀ {x : Option Pl}, x.map (·, ([] : List Nat)) = some ((s, is), rd) → x = some (s, is) := by
    intro x hx
    simp only [Option.map_eq_some_iff, Prod.mk.injEq] at hx
    obtain ⟨y, h1, h2, _⟩ := hx
    rw [h1, h2]
  split at h
  · exact opLoad_ok hm ht hpc h
  · exact opMove_ok ht hpc (strip h)
  · exact opMove_ok ht hpc (strip h)
  · exact opPick_ok ht hpc (strip h)
  · exact opBin2_ok ht hpc (strip h) hit
  · exact opUn_ok ht hpc (strip h)
  · exact opUn_ok ht hpc (strip h)
  · exact opExtract_ok ht hpc (strip h)
  · exact opFieldAddr_ok ht hpc (strip h)
  · exact opField_ok ht hpc (strip h)
  · exact opIndexAddr_ok ht hpc (strip h) hit
  · exact opNil_ok ht hpc (strip h) hit
  · exact opSlice_ok ht hpc (strip h) hit
  · exact opSlice3_ok ht hpc (strip h) hit
  · exact opBuild_ok ht hpc (strip h)
  · exact opLook_ok hm ht hpc hP h
  · exact opLen_ok ht hpc (strip h)
  · exact opLen_ok ht hpc (strip h)
  · exact opLen_ok ht hpc (strip h)
  · cases h

def boolOf : Value → Option Bool
  | .bool b => some b
  | _ => none

theorem guardOf_ok {ops : Array Oper} (ht : SimT C w G σ.tm a) (h : guardOf ops σ o = some pc) : Region.wanted o (yielded ops a.tmps) = condB C.ρ pc ∧ ∀ x ∈ pc, x.1.lt C.N = true := by
  unfold guardOf at h
  unfold Region.wanted
  split at h
  · rename_i hg
    injection h with h; subst h
    rw [hg]; exact ⟨rfl, by simp⟩
  · rename_i j want hg
    rw [hg]
    split at h
    · rename_i t hj
      split at h
      · rename_i c e htm
        injection h with h; subst h
        obtain ⟨v, h1, h2, h0, h3⟩ := ht t c _ htm
        have hy : yielded ops a.tmps j = boolOf v := by
          unfold yielded; rw [hj]; simp only [Option.bind_some, h1]
          cases v <;> rfl
        refine ⟨?_, fun x hx => ?_⟩
        · show (yielded ops a.tmps j == some want) = condB C.ρ ((e, want) :: c)
          rw [hy]
          have hcons : condB C.ρ ((e, want) :: c) = (((den C.ρ e).toB == want) && condB C.ρ c) := rfl
          rw [hcons]
          by_cases hc : condB C.ρ c = true
          · rw [if_pos hc] at h3
            obtain ⟨_, k2, k3⟩ := h3
            obtain ⟨b, hb⟩ := has_bool.1 k3
            have hv := (hb ▸ k2).inv_bool
            rw [hv, hb, hc, Bool.and_true]
            show (some b == some want) = (b == want)
            cases b <;> cases want <;> rfl
          · rw [if_neg hc] at h3
            have : condB C.ρ c = false := by simpa using hc
            rw [this, Bool.and_false, h3]; rfl
        · rcases List.mem_cons.1 hx with rfl | hx
          · exact h0
          · exact h2 x hx
      · cases h
    · cases h

/-- The step is done: the operation runs, or is passed over. -/
def Stepped1 (P : Program) (n : Nat) (w0 : World) (S0 : Base) (C : Cx) (σ' : St) (p : Nat) (ops : Array Oper) (a : Act) (w : World) (o : Oper) : Prop :=
  ∀ (K : Act → World → Prop) (Q : Exit → Act → World → Prop), (∀ a' w' G', Sim n w0 S0 (C.add p) G' σ' a' w' → K a' w') →
    if Region.wanted o (yielded ops a.tmps) then o.wp P a w K Q else K (a.put o.dst undef) w

theorem Act.put_size (a : Act) (d : Option Nat) (v : Value) : (a.put d v).tmps.size = a.tmps.size := by
  cases d <;> simp [Act.put]
theorem Act.put_def (a : Act) (d : Option Nat) (v : Value) : (a.put d v).defers = a.defers := by
  cases d <;> rfl

/-- The frame behind a step: memory as the effect says, the slot set. -/
theorem Sim.step {e : Eff} {w' : World} {G' : Gh} {v : Value} (hs : Sim n w0 S0 C G σ a w) (hlat : Later C w G (C.add p) w' G') (hm : SimM w0 S0 (C.add p) G' (e.app σ) w')
    (hd : e.dst = o.dst) (hlt : e.ent.2.lt C.N = true) (hc : ∀ x ∈ e.ent.1, x.1.lt C.N = true) (hv : (∃ d, o.dst = some d) → if condB C.ρ e.ent.1 then RSV (C.add p) w' G' e.ent.2 v else v = undef)
    (hdst : ∀ d, o.dst = some d → d < n) : Sim n w0 S0 (C.add p) G' (e.app σ) (a.put o.dst v) w' := by
  refine ⟨hm, ?_, by rw [Act.put_size]; exact hs.sz, by rw [Act.put_def]; exact hs.defers⟩
  cases hdd : o.dst with
  | none =>
    have htm : (e.app σ).tm = σ.tm := by unfold Eff.app; rw [hd, hdd]
    rw [htm]; exact hs.t.later hlat
  | some d =>
    have htm : (e.app σ).tm = upd σ.tm d (some (e.ent.1, e.ent.2)) := by unfold Eff.app; rw [hd, hdd]
    rw [htm]
    exact (hs.t.later hlat).put (some d) v e.ent.1 e.ent.2 hc hlt (hv ⟨d, hdd⟩) (fun i hi => by rw [hs.sz]; exact hdst i (by rw [hdd]; exact hi))

theorem stepped_plain {ops : Array Oper} {rd : List Nat} (hs : Sim n w0 S0 C G σ a w) (hg : guardOf ops σ o = some pc) (h : opPlain P σ pc o = some ((s, is), rd)) (hlt : s.lt C.N = true)
    (hit : ∀ it ∈ is, ItemOk C Φ Pre it) (hdst : ∀ d, o.dst = some d → d < n) (hP : S0.prog = P) :
    Stepped1 P n w0 S0 C ((⟨o.dst, (pc, s), [], [], rd, is⟩ : Eff).app σ) p ops a w o := by
  intro K Q hK
  obtain ⟨hw, hc⟩ := guardOf_ok hs.t hg
  have hm : SimM w0 S0 (C.add p) G ((⟨o.dst, (pc, s), [], [], rd, is⟩ : Eff).app σ) w := (hs.m.addM p).congr (updL_nil _) (updL_nil _)
  have hlat := Later.addM C w G p
  rw [hw]
  cases hpc : condB C.ρ pc with
  | true =>
    obtain ⟨v, h1, h2⟩ := opPlain_ok hs.m hs.t hpc hP h hit
    simp only [if_true]
    unfold Oper.wp
    rw [h1]
    exact hK _ _ _ (hs.step (o := o) (e := ⟨o.dst, (pc, s), [], [], rd, is⟩) hlat hm rfl hlt hc (by intro _; simp only [hpc, if_true]; exact h2.later hlat) hdst)
  | false =>
    simp only [Bool.false_eq_true, if_false]
    exact hK _ _ _ (hs.step (o := o) (e := ⟨o.dst, (pc, s), [], [], rd, is⟩) hlat hm rfl hlt hc (by intro _; simp only [hpc, Bool.false_eq_true, if_false]) hdst)

theorem run_opNew {l : List SC} (ht : SimT C w G σ.tm a) (hpc : condB C.ρ pc = true) (h : opNew P σ pc o = some l) (hsc : l.all SC.scalar = true) :
    ∃ (vs : List Value) (T : TypeId), (execOp a.eval o).run P w = .ok (.value (.pointer (some ⟨w.heap.size, 0, none⟩))) (w.alloc (.cells vs.toArray T)) ∧ RSCs C w G l vs := by
  unfold opNew at h
  split at h
  · rename_i t ho
    split at h
    · rename_i ts z hts hz
      refine ⟨z.cells.toList, t, ?_, zeroSCs_ok h⟩
      cases hi : P.info? t with
      | none => simp [hi] at hz
      | some it =>
        simp [hi] at hz
        unfold execOp; simp only [ho, Instr.alloc]
        simp [zeroValue, typeInfo, hi, hz, newVar, newRow]
    · rename_i z hts hz
      split at h
      · rename_i hzc
        injection h with h; subst h
        refine ⟨z.cells.toList, t, ?_, by rw [hzc]; rfl, ?_⟩
        · cases hi : P.info? t with
          | none => simp [hi] at hz
          | some it =>
            simp [hi] at hz
            unfold execOp; simp only [ho, Instr.alloc]
            simp [zeroValue, typeInfo, hi, hz, newVar, newRow]
        · rw [hzc]
          intro i c v hc hv
          match i, hc, hv with
          | 0, hc, hv =>
            simp at hc hv
            subst hc hv
            exact .inl rfl
          | k + 1, hc, hv => simp at hc
      · cases h
    · cases h
  · rename_i t x ho
    cases hg : getV P σ pc x t with
    | none => simp [hg] at h
    | some sv =>
      simp only [hg, Option.bind_some] at h
      obtain ⟨vs, hv, hr⟩ := asCells_ok h (getV_ok ht hpc hg) hsc
      refine ⟨vs, t, ?_, hr⟩
      unfold execOp; simp only [ho, Instr.box]
      simp [newVar, newRow, hv]
  · cases h

theorem stepped_new {ops : Array Oper} {l : List SC} (hs : Sim n w0 S0 C G σ a w) (hp : ¬ C.M p) (hg : guardOf ops σ o = some []) (h : opNew P σ [] o = some l) (hsc : l.all SC.scalar = true)
    (hdst : ∀ d, o.dst = some d → d < n) :
    Stepped1 P n w0 S0 C ((⟨o.dst, ([], .one (.adr p 0)), [(p, some (false, l))], [], [], []⟩ : Eff).app σ) p ops a w o := by
  intro K Q hK
  obtain ⟨hw, _⟩ := guardOf_ok hs.t hg
  rw [hw]
  simp only [condB, List.all_nil, if_true]
  obtain ⟨vs, T, h1, h2⟩ := run_opNew hs.t (pc := []) rfl h hsc
  unfold Oper.wp
  rw [h1]
  obtain ⟨hlat, hm⟩ := hs.m.alloc hp h2 hsc T
  exact hK _ _ _ (hs.step (o := o) (e := ⟨o.dst, ([], .one (.adr p 0)), [(p, some (false, l))], [], [], []⟩) hlat (hm.congr (updL_one _ _ _) (updL_nil _)) rfl rfl (by simp)
    (by intro _; simp only [condB, List.all_nil, if_true]; exact ⟨.inr rfl, by simp [upd]⟩) hdst)

theorem stepped_store {ops : Array Oper} {id : Nat} {l : List SC} (hs : Sim n w0 S0 C G σ a w) (hg : guardOf ops σ o = some []) (h : opStore P σ [] o = some (id, l)) (hsc : l.all SC.scalar = true) (hd : o.dst = none) :
    Stepped1 P n w0 S0 C ((⟨none, ([], .agg []), [(id, some (false, l))], [], [id], []⟩ : Eff).app σ) p ops a w o := by
  intro K Q hK
  obtain ⟨hw, _⟩ := guardOf_ok hs.t hg
  rw [hw]
  simp only [condB, List.all_nil, if_true]
  unfold opStore at h
  split at h
  · rename_i t x y ho
    split at h
    · rename_i id' off cs sz hx hy hsz
      split at h
      · rename_i old hid
        split at h
        · rename_i hcnd
          obtain ⟨hnm, hl, hle⟩ := hcnd
          injection h with h; simp only [Prod.mk.injEq] at h; obtain ⟨rfl, rfl⟩ := h
          obtain ⟨_, hsc0, hblk, _⟩ := hs.m.box _ _ _ hid
          obtain ⟨vs, T, hg', hr⟩ := hblk.cells hnm
          have hxv := (getV_ok hs.t (pc := []) rfl hx).2
          cases hgy : getV P σ [] y t with
          | none => simp [hgy] at hy
          | some sv =>
            simp only [hgy, Option.bind_some] at hy
            have hsc1 : cs.all SC.scalar = true := by
              rw [List.all_append, List.all_append] at hsc
              simp only [Bool.and_eq_true] at hsc; exact hsc.1.2
            obtain ⟨us, hv, hru⟩ := asCells_ok hy (getV_ok hs.t (pc := []) rfl hgy) hsc1
            have hnew := hr.splice hru hle
            have hone : ∀ u ∈ us, u.oneCell' = true := by
              intro u hu
              obtain ⟨i, hi⟩ := List.getElem?_of_mem hu
              have hil : i < us.length := (List.getElem?_eq_some_iff.1 hi).1
              have hci : cs[i]? = some (cs[i]'(by rw [← hru.1]; exact hil)) := List.getElem?_eq_getElem _
              exact (hru.2 i _ u hci hi).oneCell (List.all_eq_true.1 hsc1 _ (List.mem_of_getElem? hci))
            have hst := run_storeCells_at P (G.β id') off T us 0 vs.toArray w hg' (by simp [hru.1, hr.1]; exact hle) hone
            simp only [Nat.add_zero] at hst
            have hrun : (execOp a.eval o).run P w = .ok .skip (w.setRow (G.β id') (vs.take off ++ us ++ vs.drop (off + us.length)).toArray) := by
              have h1 := run_sizeT (P := P) (w := w) hsz
              unfold execOp; simp only [ho, hxv, Instr.storeAt, Instr.sureAddr]
              simp [storeVar, h1, hv, hru.1, hl, hst]
            unfold Oper.wp
            rw [hrun]
            obtain ⟨hlat, hm⟩ := hs.m.setBox hid hnm hnew hsc
            have hlat' := hlat.trans (Later.addM C _ G p)
            exact hK _ _ _ (hs.step (o := o) (e := ⟨none, ([], .agg []), [(id', some (false, old.take off ++ cs ++ old.drop (off + cs.length)))], [], [id'], []⟩) hlat' ((hm.addM p).congr (updL_one _ _ _) (updL_nil _)) hd.symm rfl (by simp)
              (v := undef) (by rintro ⟨d, hd'⟩; rw [hd] at hd'; cases hd') (by intro d hd'; rw [hd] at hd'; cases hd'))
        · cases h
      · cases h
    · cases h
  · cases h

theorem stepped_make {cs : Tbl} {ops : Array Oper} {kt : Ty} {T : TypeId} (hs : Sim n w0 S0 C G σ a w) (hp : ¬ C.M p) (hg : guardOf ops σ o = some []) (h : opMake cs o = some (kt, T)) (hE : Env1 P cs S0 Φ Pre)
    (hdst : ∀ d, o.dst = some d → d < n) :
    Stepped1 P n w0 S0 C ((⟨o.dst, ([], .one (.mref p)), [(p, some (false, [.mcon .nil kt T]))], [], [], []⟩ : Eff).app σ) p ops a w o := by
  intro K Q hK
  obtain ⟨hw, _⟩ := guardOf_ok hs.t hg
  rw [hw]
  simp only [condB, List.all_nil, if_true]
  unfold opMake at h
  split at h
  · rename_i T' ho
    simp only [Option.map_eq_some_iff, Prod.mk.injEq] at h
    obtain ⟨kt', hlk, rfl, rfl⟩ := h
    have hk := hE.keys _ _ hlk
    rw [← hE.prog] at hk
    have hrun : (execOp a.eval o).run P w = .ok (.value (.map (some w.heap.size))) (w.alloc (.map #[] 0)) := by
      unfold execOp; simp only [ho]
      have := run_makeMap (P := P) T' w
      simp [this]
    unfold Oper.wp
    rw [hrun]
    obtain ⟨hlat, hm⟩ := hs.m.allocMap hp hk
    exact hK _ _ _ (hs.step (o := o) (e := ⟨o.dst, ([], .one (.mref p)), [(p, some (false, [.mcon .nil kt' T']))], [], [], []⟩) hlat (hm.congr (updL_one _ _ _) (updL_nil _)) rfl rfl (by simp)
      (by intro _; simp only [condB, List.all_nil, if_true]; exact ⟨.inr rfl, by simp [upd]⟩) hdst)
  · cases h

theorem stepped_put {cs : Tbl} {ops : Array Oper} {id : Nat} {ek e : E} {kt : Ty} {T : TypeId} (hs : Sim n w0 S0 C G σ a w) (hg : guardOf ops σ o = some []) (h : opPut P σ o = some (id, ek, e, kt, T)) (hE : Env1 P cs S0 Φ Pre)
    (hit : ItemOk C Φ Pre (.room [] (.cons ek e) kt.bytes)) :
    Stepped1 P n w0 S0 C ((⟨none, ([], .agg []), [(id, some (false, [.mcon (.cons ek e) kt T]))], [], [id], [.room [] (.cons ek e) kt.bytes]⟩ : Eff).app σ) p ops a w o := by
  intro K Q hK
  obtain ⟨hw, _⟩ := guardOf_ok hs.t hg
  rw [hw]
  simp only [condB, List.all_nil, if_true]
  unfold opPut at h
  split at h
  · rename_i T0 m x ho
    split at h
    · rename_i id0 ek0 kt0 hgm hgx
      split at h
      · rename_i cs0 hid
        split at h
        · rename_i e0 kt' T' hmap
          split at h
          · rename_i hc
            obtain ⟨rfl, rfl, hd⟩ := hc
            injection h with h; simp only [Prod.mk.injEq] at h; obtain ⟨rfl, rfl, rfl, rfl, rfl⟩ := h
            obtain ⟨_, _, hblk, _⟩ := hs.m.box _ _ _ hid
            unfold BlkOk at hblk
            rw [hmap] at hblk
            obtain ⟨k1, k2, k3⟩ := hblk
            obtain ⟨q1, q2, q3⟩ := getD_ok hs.t (pc := []) rfl hgx
            have hv := (getV_ok hs.t (pc := []) rfl hgm).2
            have hroom := hit.2 rfl
            have hden : (den C.ρ (.cons ek0 e0)).toL = den C.ρ ek0 :: (den C.ρ e0).toL := rfl
            rw [hden] at hroom
            rw [List.length_cons] at hroom
            obtain ⟨w2, r1, r2, r3⟩ := k3.update q2 q3 (by omega)
            have hrun : (execOp a.eval o).run P w = .ok .skip w2 := by
              rw [hE.prog] at r1
              unfold execOp; simp only [ho, hv]
              have hb : a.eval (.const (.bool true)) = .bool true := rfl
              rw [hb]
              simp [r1]
            unfold Oper.wp
            rw [hrun]
            obtain ⟨l0, hl0, hlen0, hall0⟩ := has_list.1 k2
            have hhas : Has (.list kt') (den C.ρ (.cons ek0 e0)) := has_list.2 ⟨_, rfl, ⟨by rw [List.length_cons]; omega, by rw [List.length_cons]; omega⟩, fun y hy => by
              rcases List.mem_cons.1 hy with rfl | hy
              · exact q3
              · rw [hl0] at hy; exact hall0 y hy⟩
            obtain ⟨hlat, hm⟩ := hs.m.setMap hid (e := .cons ek0 e0) r3 ⟨by simp [E.lt, q1, k1], hhas, r2⟩
            have hlat' := hlat.trans (Later.addM C _ G p)
            exact hK _ _ _ (hs.step (o := o) (e := ⟨none, ([], .agg []), [(id0, some (false, [.mcon (.cons ek0 e0) kt' T']))], [], [id0], [.room [] (.cons ek0 e0) kt'.bytes]⟩) hlat' ((hm.addM p).congr (updL_one _ _ _) (updL_nil _)) hd.symm rfl (by simp)
              (v := undef) (by rintro ⟨d, hd'⟩; rw [hd] at hd'; cases hd') (by intro d hd'; rw [hd] at hd'; cases hd'))
          · cases h
        · cases h
      · cases h
    · cases h
  · cases h

end
end Go.Eng
/- Function literals and calls. -/
namespace Go.Eng
open Go Go.RowKit

section
variable {P : Program} {C : Cx} {w w0 : World} {S0 : Base} {G : Gh} {σ : St} {a : Act} {o : Oper} {pc : Cond} {s : SV} {is : List Item} {Φ : Nat → List D → D} {Pre : Nat → List D → Prop} {n p : Nat}

theorem SimM.freezes (hm : SimM w0 S0 C G σ w) : ∀ (fz : List (Nat × List SC)), (∀ x ∈ fz, ∃ ro, σ.hp x.1 = some (ro, x.2) ∧ mapOf x.2 = none) →
    ∃ G', Later C w G C w G' ∧ SimM w0 S0 C G' { σ with hp := updL σ.hp (fz.map fun x => (x.1, some (true, x.2))) } w ∧ (∀ x ∈ fz, ∀ o, o < x.2.length → G'.S (G.β x.1) o) ∧ G'.β = G.β
  | [], _ => ⟨G, Later.refl C w G, hm.congr (updL_nil _) rfl, by simp, rfl⟩
  | (id, cs) :: fz, h => by
    obtain ⟨G1, l1, m1, c1, b1⟩ := SimM.freezes hm fz (fun x hx => h x (List.mem_cons_of_mem _ hx))
    obtain ⟨ro, hid, hnm⟩ := h (id, cs) (by simp)
    simp only at hid hnm
    have hid1 : ∃ ro', updL σ.hp (fz.map fun x => (x.1, some (true, x.2))) id = some (ro', cs) := by
      unfold updL
      cases hl : lk (fz.map fun x => (x.1, some (true, x.2))) id with
      | none => exact ⟨ro, hid⟩
      | some v =>
        have := lk_mem hl
        simp only [List.mem_map, Prod.mk.injEq] at this
        obtain ⟨x, hx, rfl, rfl⟩ := this
        obtain ⟨ro2, h2, _⟩ := h x (List.mem_cons_of_mem _ hx)
        rw [hid] at h2
        injection h2 with h2; simp only [Prod.mk.injEq] at h2
        exact ⟨true, by rw [h2.2]⟩
    obtain ⟨ro', hid1⟩ := hid1
    obtain ⟨G2, l2, m2, c2, b2, _⟩ := m1.freeze (id := id) (ro := ro') (cs := cs) hid1 hnm
    refine ⟨G2, l1.trans l2, ?_, ?_, by rw [b2, b1]⟩
    · refine m2.congr ?_ rfl
      show updL σ.hp ((id, some (true, cs)) :: fz.map fun x => (x.1, some (true, x.2))) = upd (updL σ.hp (fz.map fun x => (x.1, some (true, x.2)))) id (some (true, cs))
      rw [updL_cons]; rfl
    · intro x hx o ho
      rcases List.mem_cons.1 hx with rfl | hx
      · rw [← b1]; exact c2 o ho
      · exact l2.S _ _ (c1 x hx o ho)

theorem capsE_hp : ∀ {l : List Operand} {es : List (E × Ty)} {fz : List (Nat × List SC)}, capsE P σ pc l = some (es, fz) → ∀ x ∈ fz, ∃ ro, σ.hp x.1 = some (ro, x.2) ∧ mapOf x.2 = none
  | [], es, fz, h => by simp only [capsE, Option.some.injEq, Prod.mk.injEq] at h; obtain ⟨rfl, rfl⟩ := h; simp
  | y :: l, es, fz, h => by
    simp only [capsE] at h
    split at h
    · rename_i id es' fz' hg hr
      split at h
      · rename_i ro cs hid
        split at h
        · rename_i hds
          injection h with h; simp only [Prod.mk.injEq] at h; obtain ⟨rfl, rfl⟩ := h
          intro x hx
          rcases List.mem_cons.1 hx with rfl | hx
          · exact ⟨ro, hid, asDatas_notMap hds⟩
          · exact capsE_hp hr x hx
        · cases h
      · cases h
    · rename_i e fs es' fz' hg hr
      injection h with h; simp only [Prod.mk.injEq] at h; obtain ⟨rfl, rfl⟩ := h
      exact capsE_hp hr
    · cases h

theorem capsE_ok (hm : SimM w0 S0 C G σ w) (ht : SimT C w G σ.tm a) (hpc : condB C.ρ pc = true) {G' : Gh} (hlat : Later C w G C w G') : ∀ {l : List Operand} {es : List (E × Ty)} {fz : List (Nat × List SC)}, capsE P σ pc l = some (es, fz) →
    (∀ x ∈ fz, ∀ o, o < x.2.length → G'.S (G.β x.1) o) → es.length = l.length ∧ ∀ (i : Nat) x e, l[i]? = some x → es[i]? = some e → e.1.lt C.N = true ∧ Rep w G'.S (a.eval x) (den C.ρ e.1) ∧ Has e.2 (den C.ρ e.1)
  | [], es, fz, h, _ => by simp only [capsE, Option.some.injEq, Prod.mk.injEq] at h; obtain ⟨rfl, rfl⟩ := h; exact ⟨rfl, by intro i x e hi; simp at hi⟩
  | y :: l, es, fz, h, hS => by
    simp only [capsE] at h
    split at h
    · rename_i id es' fz' hg hr
      split at h
      · rename_i ro cs hid
        split at h
        · rename_i ds ts hds
          injection h with h; simp only [Prod.mk.injEq] at h; obtain ⟨rfl, rfl⟩ := h
          obtain ⟨k1, k2⟩ := capsE_ok hm ht hpc hlat hr (fun x hx => hS x (List.mem_cons_of_mem _ hx))
          refine ⟨by simp [k1], fun i x e hi he => ?_⟩
          cases i with
          | succ i => exact k2 i x e (by simpa using hi) (by simpa using he)
          | zero =>
            simp at hi he; subst hi; subst he
            have hv := (getV_ok ht hpc hg).2
            obtain ⟨_, _, hblk, _⟩ := hm.box _ _ _ hid
            obtain ⟨vs, T, hgb, hrc⟩ := hblk.cells (asDatas_notMap hds)
            obtain ⟨m1, m2, m3, m4, m5⟩ := asDatas_ok hds hrc
            have hd : den C.ρ (.un .ptrc (.ofL ds)) = .ptr (ds.map (den C.ρ)) := by simp only [den, den_ofL, U.den, D.toL]
            refine ⟨by simpa [E.lt] using m1, ?_, ?_⟩
            · rw [hd, hv]
              refine .ptr _ vs _ (by simp [m2]) (fun i hi => hS (id, cs) (by simp) i (by simp [m2, hrc.1] at hi; exact hi)) (fun i v hi => ?_) (fun i v d hi hdd => ?_)
              · rw [cell_of_row w _ i _ T _ hgb]; simpa using hi
              · simp only [List.getElem?_map, Option.map_eq_some_iff] at hdd
                obtain ⟨e, he, rfl⟩ := hdd
                exact (m4 i v e hi he).keep hlat.S hlat.cell
            · rw [hd]; exact has_box.2 ⟨_, rfl, m5⟩
        · cases h
      · cases h
    · rename_i e fs es' fz' hg hr
      injection h with h; simp only [Prod.mk.injEq] at h; obtain ⟨rfl, rfl⟩ := h
      obtain ⟨k1, k2⟩ := capsE_ok hm ht hpc hlat hr hS
      refine ⟨by simp [k1], fun i x e' hi he => ?_⟩
      cases i with
      | succ i => exact k2 i x e' (by simpa using hi) (by simpa using he)
      | zero =>
        simp at hi he; subst hi; subst he
        obtain ⟨q1, q2, q3⟩ := getV_ok ht hpc hg
        exact ⟨q1, q2.keep hlat.S hlat.cell, q3⟩
    · cases h

theorem stepped_fn {ops : Array Oper} {e : E} {t : Ty} {fz : List (Nat × List SC)} (hs : Sim n w0 S0 C G σ a w) (hg : guardOf ops σ o = some pc) (h : opFn P σ pc o = some (e, t, fz)) (hlt : e.lt C.N = true)
    (hdst : ∀ d, o.dst = some d → d < n) :
    Stepped1 P n w0 S0 C ((⟨o.dst, (pc, .one (.dat e t)), fz.map fun x => (x.1, some (true, x.2)), [], fz.map (·.1), []⟩ : Eff).app σ) p ops a w o := by
  intro K Q hK
  obtain ⟨hw, hc⟩ := guardOf_ok hs.t hg
  rw [hw]
  unfold opFn at h
  split at h
  · rename_i f first captured ho
    split at h
    · rename_i hfirst
      split at h
      · rename_i es fz' hcaps
        injection h with h; simp only [Prod.mk.injEq] at h; obtain ⟨hE, hT, hF⟩ := h
        subst hF
        obtain ⟨G', hlat, hm, hcov, hβ⟩ := hs.m.freezes fz' (capsE_hp hcaps)
        have hlat' := hlat.trans (Later.addM C w G' p)
        have hm' := (hm.addM p)
        have fin := fun (v : Value) hv => hs.step (o := o) (v := v) (e := (⟨o.dst, (pc, .one (.dat e t)), fz'.map fun x => (x.1, some (true, x.2)), [], fz'.map (·.1), []⟩ : Eff)) hlat' (hm'.congr rfl (updL_nil _)) rfl hlt hc hv hdst
        cases hpc : condB C.ρ pc with
        | false =>
          simp only [Bool.false_eq_true, if_false]
          exact hK _ _ _ (fin _ (by intro _; simp only [hpc, Bool.false_eq_true, if_false]))
        | true =>
          simp only [if_true]
          obtain ⟨k1, k2⟩ := capsE_ok hs.m hs.t hpc hlat hcaps hcov
          have hf0 : first = #[] := by apply Array.ext'; simpa using hfirst
          have hrun : (execOp a.eval o).run P w = .ok (.value (.func (.func f) #[] (captured.toList.map a.eval).toArray)) w := by
            have hm0 : (captured.toList.map a.eval).toArray = captured.map a.eval := by apply Array.ext'; simp
            unfold execOp; simp only [ho, Instr.makeFunc, hf0, hm0]
            simp
          unfold Oper.wp
          rw [hrun]
          refine hK _ _ _ (fin _ ?_)
          intro _; simp only [hpc, if_true]
          have hd : den C.ρ e = .fn f ((es.map (·.1)).map (den C.ρ)) := by rw [← hE]; simp only [den, den_ofL, U.den, D.toL]
          refine ⟨hlt, ?_, ?_⟩
          · show Rep w G'.S _ (den C.ρ _)
            rw [hd]
            refine .fn f _ _ (by simp [k1]) fun i v d hi hdd => ?_
            simp only [List.getElem?_map, Option.map_eq_some_iff] at hi hdd
            obtain ⟨x, hx, rfl⟩ := hi
            obtain ⟨e1, ⟨e2, he2, rfl⟩, rfl⟩ := hdd
            exact (k2 i x e2 hx he2).2.1
          · show Has _ (den C.ρ _)
            rw [hd, ← hT]
            refine has_fn.2 ⟨_, rfl, hasL_mk (by simp) fun j u x hj hx => ?_⟩
            simp only [List.getElem?_map, Option.map_eq_some_iff] at hj hx
            obtain ⟨e1, he1, rfl⟩ := hj
            obtain ⟨_, ⟨e2, he2, rfl⟩, rfl⟩ := hx
            rw [he1] at he2; injection he2 with he2; subst he2
            have hlen : j < captured.toList.length := by rw [← k1]; exact (List.getElem?_eq_some_iff.1 he1).1
            exact (k2 j _ e1 (List.getElem?_eq_getElem hlen) he1).2.2
      · cases h
    · cases h
  · cases h

theorem argsE_ok (ht : SimT C w G σ.tm a) (hpc : condB C.ρ pc = true) : ∀ {l : List Operand} {ts : List TypeId} {es : List (E × Ty)}, argsE P σ pc l ts = some es →
    es.length = l.length ∧ ∀ (i : Nat) x e, l[i]? = some x → es[i]? = some e → Rep w G.S (a.eval x) (den C.ρ e.1) ∧ Has e.2 (den C.ρ e.1)
  | [], [], es, h => by simp only [argsE, Option.some.injEq] at h; subst h; exact ⟨rfl, by intro i x e hi; simp at hi⟩
  | y :: l, t :: ts, es, h => by
    simp only [argsE] at h
    split at h
    · rename_i e es' h1 h2
      injection h with h; subst h
      obtain ⟨k1, k2⟩ := argsE_ok ht hpc h2
      refine ⟨by simp [k1], fun i x e' hi he => ?_⟩
      cases i with
      | zero => simp at hi he; subst hi; subst he; exact (getD_ok ht hpc h1).2
      | succ i => exact k2 i x e' (by simpa using hi) (by simpa using he)
    · cases h
  | [], _ :: _, _, h => by cases h
  | _ :: _, [], _, h => by cases h

theorem OwnD.ok {base : Nat} {S : Foot} {T : TypeId} {t : Ty} {v : Value} {d : D} {g : Tag} (h : OwnD g.ex w base S T t v d) {e : E} (hM : C.M g.1) (he : e.lt C.N = true) (hd : den C.ρ e = d) (hS : G.S = S) (hτ : G.τ g = v) :
    OwnOk C w base G g e T t := by
  obtain ⟨h1, h2, h3⟩ := h
  subst hd; subst hS; subst hτ
  exact ⟨hM, he, h1, h3⟩

theorem cellsSC_get (own : Bool) (p : Nat) (e : E) : ∀ (l : List RCell) (j i : Nat), (cellsSC own p e j l)[i]? = (l[i]?).map fun c => cellSC own p (.un (.cell (j + i)) e) c
  | [], j, i => by simp [cellsSC]
  | c :: l, j, 0 => by simp [cellsSC]
  | c :: l, j, i + 1 => by simp only [cellsSC, List.getElem?_cons_succ, cellsSC_get own p e l (j + 1) i]; congr 2; funext t; congr 3; omega
theorem cellsSC_len (own : Bool) (p : Nat) (e : E) : ∀ (l : List RCell) (j : Nat), (cellsSC own p e j l).length = l.length
  | [], _ => rfl
  | _ :: l, j => by simp [cellsSC, cellsSC_len own p e l]
theorem compsSC_get (own : Bool) (p : Nat) (e : E) : ∀ (l : List (Bool × List RCell)) (j i : Nat), (compsSC own p e j l)[i]? = (l[i]?).map fun c => compSC own p (.un (.cell (j + i)) e) c
  | [], j, i => by simp [compsSC]
  | c :: l, j, 0 => by simp [compsSC]
  | c :: l, j, i + 1 => by simp only [compsSC, List.getElem?_cons_succ, compsSC_get own p e l (j + 1) i]; congr 2; funext t; congr 3; omega
theorem compsSC_len (own : Bool) (p : Nat) (e : E) : ∀ (l : List (Bool × List RCell)) (j : Nat), (compsSC own p e j l).length = l.length
  | [], _ => rfl
  | _ :: l, j => by simp [compsSC, compsSC_len own p e l]

theorem cellSC_ok {base : Nat} {τ : Nat → Value} {c : RCell} {v : Value} {d : D} {e : E} (h : CellOk w base G.S τ c v d) (hM : C.M p) (he : e.lt C.N = true) (hd : den C.ρ e = d) (hτ : ∀ j, G.τ (p, j) = τ j) (own : Bool) (hx : own = true ∨ ∀ j T, c.2 = some (j, T) → exN j = false := by exact .inl rfl) :
    RSC C w G (cellSC own p e c) v := by
  obtain ⟨t, _ | ⟨j, T⟩⟩ := c
  · obtain ⟨h1, h2⟩ := h
    exact ⟨he, hd ▸ h1, hd ▸ h2⟩
  · obtain ⟨rfl, h2⟩ := h
    have hok := OwnD.ok (C := C) (G := G) (g := (p, j)) h2 hM he hd rfl (hτ j)
    cases hej : exN j with
    | true =>
      have ho : own = true := hx.elim id fun h => by rw [h j T rfl] at hej; cases hej
      subst ho
      simp only [cellSC, if_true, hej]
      refine ⟨hM, (hτ j).symm, ?_⟩
      obtain ⟨xs, l, _, hown, _⟩ := h2.own
      rcases hown.2 with ⟨hv, _⟩ | ⟨b, cap, cur, hv, _⟩
      · exact ⟨_, _, _, hv⟩
      · exact ⟨_, _, _, hv⟩
    | false =>
      have hrep := hok.rep h2.sz hej
      rw [hτ j] at hrep
      cases own with
      | true => simp only [cellSC, if_true, hej, Bool.false_eq_true, if_false]; exact ⟨hM, he, hrep, hok.has, (hτ j).symm⟩
      | false => exact ⟨he, hrep, hok.has⟩

theorem compSC_ok {base : Nat} {τ : Nat → Value} {c : Bool × List RCell} {v : Value} {d : D} {e : E} (h : CompOk w base G.S τ c v d) (hM : C.M p) (he : e.lt C.N = true) (hd : den C.ρ e = d) (hτ : ∀ j, G.τ (p, j) = τ j) (own : Bool) (hx : own = true ∨ ∀ y ∈ c.2, ∀ j T, y.2 = some (j, T) → exN j = false := by exact .inl rfl) :
    RComp C w G (compSC own p e c) v := by
  have hx' := hx
  clear hx
  unfold CompOk at h
  unfold RComp compSC
  cases hc : c.1 with
  | true =>
    simp only [hc, if_true] at h ⊢
    obtain ⟨vs, ds, rfl, rfl, hl1, hl2, hcell⟩ := h
    refine ⟨vs, rfl, by rw [cellsSC_len, hl1], fun i x u hx hu => ?_⟩
    rw [cellsSC_get] at hx
    simp only [Option.map_eq_some_iff] at hx
    obtain ⟨y, hy, rfl⟩ := hx
    have hil : i < ds.length := by rw [hl2]; exact (List.getElem?_eq_some_iff.1 hy).1
    have hdi : ds[i]? = some ds[i] := List.getElem?_eq_getElem hil
    refine cellSC_ok (hcell i y u _ hy hu hdi) hM (by simpa [E.lt] using he) ?_ hτ own (hx'.imp id fun h => h y (List.mem_of_getElem? hy))
    simp only [den, U.den, hd, D.toL, Nat.zero_add]; exact toL_getD hdi
  | false =>
    simp only [hc, Bool.false_eq_true, if_false] at h ⊢
    obtain ⟨x, hx, hx2⟩ := h
    exact ⟨cellSC own p e x, by rw [hx]; rfl, cellSC_ok hx2 hM he hd hτ own (hx'.imp id fun h => h x (by rw [hx]; simp))⟩

theorem resSVx_ok {base : Nat} {τ : Nat → Value} {res : List (Bool × List RCell)} {v : Value} {e : E} (h : ResOk w base G.S τ res v (den C.ρ e)) (hM : C.M p) (he : e.lt C.N = true) (hτ : ∀ j, G.τ (p, j) = τ j) (own : Bool) (hx : own = true ∨ noEx res = true := by exact .inl rfl) :
    RSV C w G (resSVx own p e res) v := by
  have hx' : own = true ∨ ∀ c ∈ res, ∀ y ∈ c.2, ∀ j T, y.2 = some (j, T) → exN j = false := hx.imp id fun h c hc y hy j T hj => by
    have := List.all_eq_true.1 (List.all_eq_true.1 h c hc) y hy
    rw [hj] at this; simpa using this
  clear hx
  rcases h with ⟨c, rfl, h⟩ | ⟨hne, vs, ds, rfl, hd, hl1, hl2, hcomp⟩
  · have := compSC_ok h hM he rfl hτ own (hx'.imp id fun h => h c (by simp))
    unfold RComp at this
    simp only [resSVx]
    split
    · rename_i l hl
      rw [hl] at this
      simpa [RSV] using this
    · rename_i l hl
      rw [hl] at this
      simp only [Bool.false_eq_true, if_false] at this
      obtain ⟨c', rfl, hc'⟩ := this
      exact hc'
  · have hr : resSVx own p e res = .tup (compsSC own p e 0 res) := by
      match res, hne with
      | [], _ => rfl
      | [c], hne => exact absurd rfl hne
      | _ :: _ :: _, _ => rfl
    rw [hr]
    refine ⟨vs, rfl, by rw [compsSC_len, hl1], fun i x u hx hu => ?_⟩
    rw [compsSC_get] at hx
    simp only [Option.map_eq_some_iff] at hx
    obtain ⟨y, hy, rfl⟩ := hx
    have hil : i < ds.length := by rw [hl2]; exact (List.getElem?_eq_some_iff.1 hy).1
    have hdi : ds[i]? = some ds[i] := List.getElem?_eq_getElem hil
    refine compSC_ok (hcomp i y u _ hy hu hdi) hM (by simpa [E.lt] using he) ?_ hτ own (hx'.imp id fun h => h y (List.mem_of_getElem? hy))
    simp only [den, U.den, hd, D.toL, Nat.zero_add]; exact toL_getD hdi

/-- What a live entry of a result stands for. -/
def LiveOk (C : Cx) (w : World) (base : Nat) (G : Gh) (p : Nat) (idx : List Nat) (x : Tag × Option (E × TypeId × Ty)) : Prop :=
  x.1.1 = p ∧ x.1.2 ∈ idx ∧ ∃ e T t, x.2 = some (e, T, t) ∧ OwnOk C w base G x.1 e T t

theorem cellLive_ok {base : Nat} {τ : Nat → Value} {c : RCell} {v : Value} {d : D} {e : E} {idx : List Nat} (h : CellOk w base G.S τ c v d) (hM : C.M p) (he : e.lt C.N = true) (hd : den C.ρ e = d) (hτ : ∀ j, G.τ (p, j) = τ j)
    (hidx : ∀ j T, c.2 = some (j, T) → j ∈ idx) : ∀ x ∈ cellLive p e c, LiveOk C w base G p idx x := by
  obtain ⟨t, _ | ⟨j, T⟩⟩ := c
  · intro x hx; simp [cellLive] at hx
  · intro x hx
    simp only [cellLive, List.mem_singleton] at hx
    subst hx
    obtain ⟨rfl, h2⟩ := h
    exact ⟨rfl, hidx j T rfl, e, T, t, rfl, OwnD.ok (g := (p, j)) h2 hM he hd rfl (hτ j)⟩

theorem cellsLive_mem (p : Nat) (e : E) : ∀ (l : List RCell) (j : Nat) (x), x ∈ cellsLive p e j l → ∃ (i : Nat) (c : RCell), l[i]? = some c ∧ x ∈ cellLive p (.un (.cell (j + i)) e) c
  | [], j, x, h => by simp [cellsLive] at h
  | c :: l, j, x, h => by
    simp only [cellsLive, List.mem_append] at h
    rcases h with h | h
    · exact ⟨0, c, rfl, h⟩
    · obtain ⟨i, c', h1, h2⟩ := cellsLive_mem p e l (j + 1) x h
      exact ⟨i + 1, c', by simpa using h1, by rw [show j + (i + 1) = j + 1 + i by omega]; exact h2⟩
theorem compsLive_mem (p : Nat) (e : E) : ∀ (l : List (Bool × List RCell)) (j : Nat) (x), x ∈ compsLive p e j l → ∃ (i : Nat) (c : Bool × List RCell), l[i]? = some c ∧ x ∈ compLive p (.un (.cell (j + i)) e) c
  | [], j, x, h => by simp [compsLive] at h
  | c :: l, j, x, h => by
    simp only [compsLive, List.mem_append] at h
    rcases h with h | h
    · exact ⟨0, c, rfl, h⟩
    · obtain ⟨i, c', h1, h2⟩ := compsLive_mem p e l (j + 1) x h
      exact ⟨i + 1, c', by simpa using h1, by rw [show j + (i + 1) = j + 1 + i by omega]; exact h2⟩

theorem compLive_ok {base : Nat} {τ : Nat → Value} {c : Bool × List RCell} {v : Value} {d : D} {e : E} {idx : List Nat} (h : CompOk w base G.S τ c v d) (hM : C.M p) (he : e.lt C.N = true) (hd : den C.ρ e = d) (hτ : ∀ j, G.τ (p, j) = τ j)
    (hidx : ∀ y ∈ c.2, ∀ j T, y.2 = some (j, T) → j ∈ idx) : ∀ x ∈ compLive p e c, LiveOk C w base G p idx x := by
  intro x hx
  unfold CompOk at h
  unfold compLive at hx
  cases hc : c.1 with
  | true =>
    simp only [hc, if_true] at h hx
    obtain ⟨vs, ds, rfl, rfl, hl1, hl2, hcell⟩ := h
    obtain ⟨i, y, hy, hx⟩ := cellsLive_mem p e _ _ _ hx
    have hil : i < c.2.length := (List.getElem?_eq_some_iff.1 hy).1
    have hdi : ds[i]? = some (ds[i]'(by omega)) := List.getElem?_eq_getElem _
    have hvi : vs[i]? = some (vs[i]'(by omega)) := List.getElem?_eq_getElem _
    refine cellLive_ok (hcell i y _ _ hy hvi hdi) hM (by simpa [E.lt] using he) ?_ hτ (fun j T hj => hidx y (List.mem_of_getElem? hy) j T hj) x hx
    simp only [den, U.den, hd, D.toL, Nat.zero_add]; exact toL_getD hdi
  | false =>
    simp only [hc, Bool.false_eq_true, if_false] at h hx
    obtain ⟨y, hy, hy2⟩ := h
    rw [hy] at hx
    simp only [List.flatMap_cons, List.flatMap_nil, List.append_nil] at hx
    exact cellLive_ok hy2 hM he hd hτ (fun j T hj => hidx y (by rw [hy]; simp) j T hj) x hx

theorem resLivex_ok {base : Nat} {τ : Nat → Value} {res : List (Bool × List RCell)} {v : Value} {e : E} (h : ResOk w base G.S τ res v (den C.ρ e)) (hM : C.M p) (he : e.lt C.N = true) (hτ : ∀ j, G.τ (p, j) = τ j) :
    ∀ x ∈ resLivex p e res, LiveOk C w base G p (ownIdx res) x := by
  have hidx : ∀ c ∈ res, ∀ y ∈ c.2, ∀ j T, y.2 = some (j, T) → j ∈ ownIdx res := by
    intro c hc y hy j T hj
    unfold ownIdx
    rw [List.mem_flatMap]
    exact ⟨c, hc, List.mem_filterMap.2 ⟨y, hy, by rw [hj]; rfl⟩⟩
  rcases h with ⟨c, rfl, h⟩ | ⟨hne, vs, ds, rfl, hd, hl1, hl2, hcomp⟩
  · exact compLive_ok h hM he rfl hτ (hidx c (by simp))
  · have hr : resLivex p e res = compsLive p e 0 res := by
      match res, hne with
      | [], _ => rfl
      | [c], hne => exact absurd rfl hne
      | _ :: _ :: _, _ => rfl
    rw [hr]
    intro x hx
    obtain ⟨i, y, hy, hx⟩ := compsLive_mem p _ _ _ _ hx
    have hil : i < res.length := (List.getElem?_eq_some_iff.1 hy).1
    have hdi : ds[i]? = some (ds[i]'(by omega)) := List.getElem?_eq_getElem _
    have hvi : vs[i]? = some (vs[i]'(by omega)) := List.getElem?_eq_getElem _
    refine compLive_ok (hcomp i y _ _ hy hvi hdi) hM (by simpa [E.lt] using he) ?_ hτ (hidx y (List.mem_of_getElem? hy)) x hx
    simp only [den, U.den, hd, D.toL, Nat.zero_add]; exact toL_getD hdi

theorem resSV_ok {base : Nat} {τ : Nat → Value} {res : List (Bool × List RCell)} {v : Value} (h : ResOk w base G.S τ res v (C.ρ p)) (hM : C.M p) (hp : p < C.N) (hτ : ∀ j, G.τ (p, j) = τ j) (own : Bool) (hx : own = true ∨ noEx res = true := by exact .inl rfl) :
    RSV C w G (resSV own p res) v := resSVx_ok (e := .var p) h hM (by simpa [E.lt] using hp) hτ own hx
theorem resLive_ok {base : Nat} {τ : Nat → Value} {res : List (Bool × List RCell)} {v : Value} (h : ResOk w base G.S τ res v (C.ρ p)) (hM : C.M p) (hp : p < C.N) (hτ : ∀ j, G.τ (p, j) = τ j) :
    ∀ x ∈ resLive p res, LiveOk C w base G p (ownIdx res) x := resLivex_ok (e := .var p) h hM (by simpa [E.lt] using hp) hτ
end
end Go.Eng
/- What leaves a call, or is handed to one: cells, and what they own; tags that are all different. -/
namespace Go.Eng
open Go Go.RowKit

theorem nodupTags_ne : ∀ {l : List (Option Tag)}, nodupTags l = true → ∀ (i j : Nat) g, l[i]? = some (some g) → l[j]? = some (some g) → i = j
  | [], _, i, j, g, h, _ => by simp at h
  | x :: r, hn, i, j, g, hi, hj => by
    have hr : nodupTags r = true := by cases x <;> simp [nodupTags] at hn <;> first | exact hn | exact hn.2
    have hx : x = some g → some g ∉ r := by
      rintro rfl
      simp only [nodupTags, Bool.and_eq_true, Bool.not_eq_true'] at hn
      simpa using hn.1
    cases i with
    | zero =>
      cases j with
      | zero => rfl
      | succ j =>
        simp at hi hj
        exact absurd (List.mem_of_getElem? hj) (hx hi)
    | succ i =>
      cases j with
      | zero =>
        simp at hi hj
        exact absurd (List.mem_of_getElem? hi) (hx hj)
      | succ j => rw [nodupTags_ne hr i j g (by simpa using hi) (by simpa using hj)]

section
variable {P : Program} {C : Cx} {w w0 : World} {S0 : Base} {G : Gh} {σ : St} {a : Act} {n : Nat}

/-- The owned slices of a result: by their numbers. -/
def τOf (G : Gh) (l : OwnL) : Nat → Value := fun j => match lk l j with
  | some (some g) => G.τ g
  | _ => .slice none 0 0

theorem lk_of_mem {α β : Type} [DecidableEq α] : ∀ {l : List (α × β)} {k : α} {v : β}, (l.map (·.1)).Nodup → (k, v) ∈ l → lk l k = some v
  | [], _, _, _, h => by simp at h
  | (a, b) :: l, k, v, hn, h => by
    simp only [List.map_cons, List.nodup_cons] at hn
    simp only [lk]
    rcases List.mem_cons.1 h with h | h
    · simp only [Prod.mk.injEq] at h; obtain ⟨rfl, rfl⟩ := h; simp
    · have : k ≠ a := fun e => hn.1 (List.mem_map.2 ⟨(k, v), h, e⟩)
      rw [if_neg this]; exact lk_of_mem hn.2 h

theorem retCell_ok {r : RCell} {c : SC} {e : E} {l L : OwnL} {v : Value} (hm : SimM w0 S0 C G σ w) (h : retCell σ r c = some (e, l)) (hr : RSC C w G c v) (hL : ∀ x ∈ l, x ∈ L) (hn : (L.map (·.1)).Nodup) :
    CellOk w 0 G.S (τOf G L) r v (den C.ρ e) := by
  obtain ⟨t, _ | ⟨j, T⟩⟩ := r
  · simp only [retCell] at h
    split at h
    · rename_i e' t' hd
      split at h
      · rename_i htt
        injection h with h; simp only [Prod.mk.injEq] at h; obtain ⟨rfl, rfl⟩ := h
        subst htt
        exact (asData_ok hd hr).2
      · cases h
    · cases h
  · simp only [retCell] at h
    split at h
    · rename_i t'
      split at h
      · rename_i hc
        obtain ⟨rfl, hpos⟩ := hc
        injection h with h; simp only [Prod.mk.injEq] at h; obtain ⟨rfl, rfl⟩ := h
        have hτ : τOf G L j = .slice none 0 0 := by unfold τOf; rw [lk_of_mem hn (hL (j, none) (by simp))]
        refine ⟨by rw [hτ]; exact hr, ⟨has_list.2 ⟨[], rfl, lenOk_zero _, by simp⟩, hpos, [], [], rfl, ?_, ?_, by simp⟩⟩
        · rw [hτ]; exact World.ownsRow_nil w _ _ _
        · rw [hτ]; intro b hb; cases hb
      · cases h
    · rename_i g e0 t'
      split at h
      · rename_i e1 T' t'' hl
        split at h
        · rename_i hc
          obtain ⟨rfl, rfl, rfl, hpos, hge, hje⟩ := hc
          injection h with h; simp only [Prod.mk.injEq] at h; obtain ⟨rfl, rfl⟩ := h
          have hτ : τOf G L j = G.τ g := by unfold τOf; rw [lk_of_mem hn (hL (j, some g) (by simp))]
          have ho := hm.own _ _ _ _ hl
          refine ⟨by rw [hτ]; exact hr.2.2.2.2, ⟨ho.has, hpos, ?_⟩⟩
          rw [hτ]; have e : exN j = g.ex := by rw [hje, hge]
          rw [e]; exact ho.own
        · cases h
      · cases h
    · rename_i g t'
      split at h
      · rename_i e1 T' t'' hl
        split at h
        · rename_i hc
          obtain ⟨rfl, rfl, rfl, hpos, hge, hje⟩ := hc
          injection h with h; simp only [Prod.mk.injEq] at h; obtain ⟨rfl, rfl⟩ := h
          have hτ : τOf G L j = G.τ g := by unfold τOf; rw [lk_of_mem hn (hL (j, some g) (by simp))]
          have ho := hm.own _ _ _ _ hl
          refine ⟨by rw [hτ]; exact hr.2.1, ⟨ho.has, hpos, ?_⟩⟩
          rw [hτ]; have e : exN j = g.ex := by rw [hje, hge]
          rw [e]; exact ho.own
        · cases h
      · cases h
    · cases h

theorem retCells_ok {L : OwnL} (hm : SimM w0 S0 C G σ w) (hn : (L.map (·.1)).Nodup) : ∀ {rs : List RCell} {cs : List SC} {es : List E} {l : OwnL} {vs : List Value}, retCells σ rs cs = some (es, l) → RSCs C w G cs vs → (∀ x ∈ l, x ∈ L) →
    es.length = rs.length ∧ vs.length = rs.length ∧ ∀ (i : Nat) r v e, rs[i]? = some r → vs[i]? = some v → es[i]? = some e → CellOk w 0 G.S (τOf G L) r v (den C.ρ e)
  | [], [], es, l, vs, h, hr, _ => by
    simp only [retCells, Option.some.injEq, Prod.mk.injEq] at h
    obtain ⟨rfl, rfl⟩ := h
    exact ⟨rfl, by have := hr.1; simpa using this, by intro i r v e hi; simp at hi⟩
  | [], _ :: _, _, _, _, h, _, _ => by cases h
  | _ :: _, [], _, _, _, h, _, _ => by cases h
  | r :: rs, c :: cs, es, l, vs, h, hr, hL => by
    simp only [retCells] at h
    split at h
    · rename_i e l1 es' l2 h1 h2
      injection h with h; simp only [Prod.mk.injEq] at h; obtain ⟨rfl, rfl⟩ := h
      cases vs with
      | nil => have := hr.1; simp at this
      | cons v vs =>
        have hr' : RSCs C w G cs vs := ⟨by have := hr.1; simpa using this, fun i c v hi hv => hr.2 (i + 1) c v (by simpa using hi) (by simpa using hv)⟩
        obtain ⟨k1, k2, k3⟩ := retCells_ok hm hn h2 hr' (fun x hx => hL x (by simp [hx]))
        refine ⟨by simp [k1], by simp [k2], fun i r' v' e' hi hv he => ?_⟩
        cases i with
        | zero =>
          simp at hi hv he; subst hi; subst hv; subst he
          exact retCell_ok hm h1 (hr.2 0 c _ rfl rfl) (fun x hx => hL x (by simp [hx])) hn
        | succ i => exact k3 i r' v' e' (by simpa using hi) (by simpa using hv) (by simpa using he)
    · cases h

theorem own_retCell {r : RCell} {c : SC} {e : E} {l : OwnL} (h : retCell σ r c = some (e, l)) : (r.2.map (·.1)).toList = l.map (·.1) := by
  obtain ⟨t, _ | ⟨j, T⟩⟩ := r
  · simp only [retCell] at h
    split at h
    · split at h
      · injection h with h; simp only [Prod.mk.injEq] at h; rw [← h.2]; rfl
      · cases h
    · cases h
  · simp only [retCell] at h
    split at h
    · split at h
      · injection h with h; simp only [Prod.mk.injEq] at h; rw [← h.2]; rfl
      · cases h
    · split at h
      · split at h
        · injection h with h; simp only [Prod.mk.injEq] at h; rw [← h.2]; rfl
        · cases h
      · cases h
    · split at h
      · split at h
        · injection h with h; simp only [Prod.mk.injEq] at h; rw [← h.2]; rfl
        · cases h
      · cases h
    · cases h

theorem own_retCells : ∀ {rs : List RCell} {cs : List SC} {es : List E} {l : OwnL}, retCells σ rs cs = some (es, l) → (rs.filterMap fun x => x.2.map (·.1)) = l.map (·.1)
  | [], cs, es, l, h => by
    cases cs <;> simp [retCells] at h
    obtain ⟨rfl, rfl⟩ := h; rfl
  | _ :: _, [], _, _, h => by cases h
  | r :: rs, c :: cs, es, l, h => by
    simp only [retCells] at h
    split at h
    · rename_i q1 q2
      injection h with h; simp only [Prod.mk.injEq] at h; rw [← h.2, List.map_append, ← own_retCell q1, ← own_retCells q2]
      cases hr : r.2 with
      | none => simp [hr]
      | some x => simp [hr]
    · cases h

theorem retCell_live {r : RCell} {c : SC} {e : E} {l : OwnL} {j : Nat} {g : Tag} (h : retCell σ r c = some (e, l)) (hm : (j, some g) ∈ l) : ∃ z, σ.live g = some z := by
  obtain ⟨t, _ | ⟨j0, T⟩⟩ := r
  · simp only [retCell] at h
    split at h
    · split at h
      · injection h with h; simp only [Prod.mk.injEq] at h; rw [← h.2] at hm; simp at hm
      · cases h
    · cases h
  · simp only [retCell] at h
    split at h
    · split at h
      · injection h with h; simp only [Prod.mk.injEq] at h; rw [← h.2] at hm; simp at hm
      · cases h
    · split at h
      · rename_i hl
        split at h
        · injection h with h; simp only [Prod.mk.injEq] at h; rw [← h.2] at hm
          simp at hm; obtain ⟨rfl, rfl⟩ := hm; exact ⟨_, hl⟩
        · cases h
      · cases h
    · split at h
      · rename_i hl
        split at h
        · injection h with h; simp only [Prod.mk.injEq] at h; rw [← h.2] at hm
          simp at hm; obtain ⟨rfl, rfl⟩ := hm; exact ⟨_, hl⟩
        · cases h
      · cases h
    · cases h
theorem retCells_live : ∀ {rs : List RCell} {cs : List SC} {es : List E} {l : OwnL} {j : Nat} {g : Tag}, retCells σ rs cs = some (es, l) → (j, some g) ∈ l → ∃ z, σ.live g = some z
  | [], [], es, l, j, g, h, hm => by simp [retCells] at h; obtain ⟨rfl, rfl⟩ := h; simp at hm
  | [], _ :: _, _, _, _, _, h, _ => by cases h
  | _ :: _, [], _, _, _, _, h, _ => by cases h
  | r :: rs, c :: cs, es, l, j, g, h, hm => by
    simp only [retCells] at h
    split at h
    · rename_i q1 q2
      injection h with h; simp only [Prod.mk.injEq] at h; rw [← h.2] at hm
      rcases List.mem_append.1 hm with hm | hm
      · exact retCell_live q1 hm
      · exact retCells_live q2 hm
    · cases h
/-- Of owned slices with numbers of their own and tags of their own: one block, one number. -/
theorem own_apart {l : OwnL} (hm : SimM w0 S0 C G σ w) (hok : ownOkB l = true) (hlive : ∀ j g, (j, some g) ∈ l → ∃ z, σ.live g = some z) {j k b : Nat} (hj : j ∈ l.map (·.1)) (hk : k ∈ l.map (·.1))
    (hbj : (τOf G l j).ownBlock = some b) (hbk : (τOf G l k).ownBlock = some b) : j = k := by
  unfold ownOkB at hok
  simp only [Bool.and_eq_true, decide_eq_true_eq] at hok
  obtain ⟨hnt, hnj⟩ := hok
  obtain ⟨x, hx, rfl⟩ := List.mem_map.1 hj
  obtain ⟨y, hy, rfl⟩ := List.mem_map.1 hk
  have ex : lk l x.1 = some x.2 := lk_of_mem hnj hx
  have ey : lk l y.1 = some y.2 := lk_of_mem hnj hy
  unfold τOf at hbj hbk
  rw [ex] at hbj
  rw [ey] at hbk
  obtain ⟨jx, _ | gx⟩ := x
  · cases hbj
  · obtain ⟨jy, _ | gy⟩ := y
    · cases hbk
    · simp only at hbj hbk
      obtain ⟨zx, hzx⟩ := hlive _ _ hx
      obtain ⟨zy, hzy⟩ := hlive _ _ hy
      have hg := hm.ownne gx gy _ _ b hzx hzy hbj hbk
      subst hg
      obtain ⟨i1, hi1⟩ := List.getElem?_of_mem hx
      obtain ⟨i2, hi2⟩ := List.getElem?_of_mem hy
      have := nodupTags_ne hnt i1 i2 gx (by rw [List.getElem?_map, hi1]; rfl) (by rw [List.getElem?_map, hi2]; rfl)
      subst this
      rw [hi1] at hi2; injection hi2 with hi2
      simp only [Prod.mk.injEq] at hi2
      exact hi2.1
theorem own_tag {l : OwnL} (hok : ownOkB l = true) {j b : Nat} (hj : j ∈ l.map (·.1)) (hb : (τOf G l j).ownBlock = some b) : ∃ g, (j, some g) ∈ l ∧ (G.τ g).ownBlock = some b := by
  unfold ownOkB at hok
  simp only [Bool.and_eq_true, decide_eq_true_eq] at hok
  obtain ⟨x, hx, rfl⟩ := List.mem_map.1 hj
  have ex : lk l x.1 = some x.2 := lk_of_mem hok.2 hx
  unfold τOf at hb
  rw [ex] at hb
  obtain ⟨jx, _ | gx⟩ := x
  · cases hb
  · exact ⟨gx, hx, hb⟩
end
end Go.Eng
