/-
  The operations that leave memory alone, one by one.
-/
import Derived.Test.YtjpkeliliahjoaaEngE
import Derived.Laws.Closers25b
namespace Go.Eng
open Go Go.RowKit

abbrev Pl := SV × List Item

def ItemOk (C : Cx) (Φ : Nat → List D → D) (Pre : Nat → List D → Prop) : Item → Prop
  | .asm pc b => condB C.ρ pc = b
  | .obl pc e => e.lt C.N = true ∧ (condB C.ρ pc = true → (den C.ρ e).toB = true)
  | .call p f args pc => args.lt C.N = true ∧ p < C.N ∧ C.ρ p = Φ f (den C.ρ args).toL ∧ (condB C.ρ pc = true → Pre f (den C.ρ args).toL)
  | .room pc e bytes => e.lt C.N = true ∧ (condB C.ρ pc = true → (den C.ρ e).toL.length ≤ maxLen ∧ (den C.ρ e).toL.length * bytes ≤ 140737488355328)

/-- The operation gives a value that is as said, and leaves the world. -/
def Gives (P : Program) (C : Cx) (w : World) (G : Gh) (a : Act) (o : Oper) (s : SV) : Prop :=
  ∃ v, (execOp a.eval o).run P w = .ok (.value v) w ∧ RSV C w G s v

def opMove (P : Program) (σ : St) (pc : Cond) (o : Oper) : Option Pl :=
  match o.op with
  | .move x | .assign x => (getV P σ pc x o.type).map fun s => (s, [])
  | _ => none

def opPick (P : Program) (σ : St) (pc : Cond) (o : Oper) : Option Pl :=
  match o.op with
  | .pick c x y =>
    match getD_ P σ pc c o.type with
    | some (ec, .bool) =>
      match getD_ P σ ((ec, true) :: pc) x o.type, getD_ P σ ((ec, false) :: pc) y o.type with
      | some (ex, tx), some (ey, ty) => if tx = ty then some (.one (.dat (mkPick tx ec ex ey) tx), []) else none
      | _, _ => none
    | _ => none
  | _ => none

def binE : BinOp → IntKind → Option (B × Bool × Bool)
  | .add, k => some (.add k, false, false)
  | .sub, k => some (.sub k, false, false)
  | .mul, k => some (.mul k, false, false)
  | .rem, k => some (.rem k, false, true)
  | .quo, k => some (.quo k, false, true)
  | .xor, k => some (.xor k, false, false)
  | .lss, _ => some (.lt, true, false)
  | .leq, _ => some (.le, true, false)
  | .gtr, _ => some (.gt, true, false)
  | .geq, _ => some (.ge, true, false)
  | .eql, _ => some (.eq, true, false)
  | .neq, _ => some (.ne, true, false)
  | _, _ => none

/-- '==' of two struct values, cell by cell. -/
def eqE (P : Program) : Nat → TypeId → List (E × Ty) → List (E × Ty) → Option E
  | 0, _, _, _ => none
  | n + 1, t, xs, ys =>
    match P.underlying t with
    | some (.int _) => match xs, ys with
      | [(x, .int k)], [(y, .int k')] => if k = k' then some (.bin .eq x y) else none
      | _, _ => none
    | some .bool => match xs, ys with
      | [(x, .bool)], [(y, .bool)] => some (.bin .beq x y)
      | _, _ => none
    | some (.struct fs) =>
      if P.stoodInHeld t then none else
      fs.toList.foldr (fun f acc => match acc, sizeT P f.type with
        | some r, some sz =>
          if f.name ≠ "_" ∧ f.offset + sz ≤ xs.length ∧ f.offset + sz ≤ ys.length then
            match eqE P n f.type ((xs.drop f.offset).take sz) ((ys.drop f.offset).take sz) with
            | some e => some (.bin .and e r)
            | none => none
          else none
        | _, _ => none) (some (.kbool true))
    | _ => none

def cellsE (e : E) : Nat → List Ty → List (E × Ty)
  | _, [] => []
  | j, t :: r => (.un (.cell j) e, t) :: cellsE e (j + 1) r

/-- Is a variable's address nil? -/
def opBinAdr (P : Program) (σ : St) (pc : Cond) (o : Oper) : Option Pl :=
  match o.op with
  | .binOp op xt x y _ =>
    match getV P σ pc x xt, getD_ P σ pc y xt, P.underlying xt with
    | some (.one (.adr _ _)), some (.nilp, .ptr _), some (.pointer _) =>
      match op with
      | .eql => some (.one (.dat (.kbool false) .bool), [])
      | .neq => some (.one (.dat (.kbool true) .bool), [])
      | _ => none
    | _, _, _ => none
  | _ => none
def opBin (P : Program) (σ : St) (pc : Cond) (o : Oper) : Option Pl :=
  match o.op with
  | .binOp op xt x y _ =>
    match getD_ P σ pc x xt, getD_ P σ pc y xt with
    | some (ex, .int k), some (ey, .int k') =>
      if k = k' then
        match binE op k with
        | some (b, isB, nz) => some (.one (.dat (.bin b ex ey) (if isB then .bool else .int k)), if nz then [.obl pc (.bin .ne ey (.kint k 0))] else [])
        | none => none
      else none
    | some (ex, .bool), some (ey, .bool) =>
      match op, P.underlying xt with
      | .eql, some .bool => some (.one (.dat (.bin .beq ex ey) .bool), [])
      | .neq, some .bool => some (.one (.dat (.un .not (.bin .beq ex ey)) .bool), [])
      | _, _ => none
    | some (ex, .agg fs), some (ey, .agg gs) =>
      match aggT P xt, P.eqGuardType P.depth xt, eqE P fuelT xt (cellsE ex 0 fs.toL) (cellsE ey 0 gs.toL), op with
      | true, false, some e, .eql => some (.one (.dat e .bool), [])
      | true, false, some e, .neq => some (.one (.dat (.un .not e) .bool), [])
      | _, _, _, _ => none
    | some (ex, .ptr _), some (.nilp, .ptr _) =>
      match op, P.underlying xt with
      | .eql, some (.pointer _) => some (.one (.dat (.un .isnil ex) .bool), [])
      | .neq, some (.pointer _) => some (.one (.dat (.un .not (.un .isnil ex)) .bool), [])
      | _, _ => none
    | _, _ => none
  | _ => none
def opBin2 (P : Program) (σ : St) (pc : Cond) (o : Oper) : Option Pl :=
  match opBinAdr P σ pc o with
  | some r => some r
  | none => opBin P σ pc o

def opUn (P : Program) (σ : St) (pc : Cond) (o : Oper) : Option Pl :=
  match o.op with
  | .unOp .not t x => match getD_ P σ pc x t with
    | some (e, .bool) => some (.one (.dat (.un .not e) .bool), [])
    | _ => none
  | .unOp .neg t x => match getD_ P σ pc x t with
    | some (e, .int k) => some (.one (.dat (.un (.neg k) e) (.int k)), [])
    | _ => none
  | .convert s d x => match getD_ P σ pc x s, P.underlying s, P.underlying d with
    | some (e, .int _), some (.int _), some (.int k) => some (.one (.dat (.un (.wrapk k) e) (.int k)), [])
    | _, _, _ => none
  | _ => none

def opExtract (P : Program) (σ : St) (pc : Cond) (o : Oper) : Option Pl :=
  match o.op with
  | .extract x j => match getV P σ pc x o.type with
    | some (.tup l) => match l[j]? with
      | some (true, cs) => some (.agg cs, [])
      | some (false, [c]) => some (.one c, [])
      | _ => none
    | _ => none
  | _ => none

def fieldOf (P : Program) (t : TypeId) (f : Nat) : Option (Field × Nat) :=
  match P.underlying t with
  | some (.struct fs) => match fs[f]? with
    | some fl => (sizeT P fl.type).map fun n => (fl, n)
    | none => none
  | _ => none

def opFieldAddr (P : Program) (σ : St) (pc : Cond) (o : Oper) : Option Pl :=
  match o.op with
  | .fieldAddr t x f =>
    match fieldOf P t f, getV P σ pc x t with
    | some (fl, _ + 1), some (.one (.adr id off)) => some (.one (.adr id (off + fl.offset)), [])
    | some (fl, _ + 1), some (.one (.eadr l i u off)) => some (.one (.eadr l i u (off + fl.offset)), [])
    | some (fl, _ + 1), some (.one (.padr e fs off)) => some (.one (.padr e fs (off + fl.offset)), [])
    | some (fl, _ + 1), some (.one (.dat e (.box fs))) => some (.one (.padr e fs fl.offset), [])
    | some (fl, _ + 1), some (.one (.xadr g i u off)) => some (.one (.xadr g i u (off + fl.offset)), [])
    | _, _ => none
  | _ => none

def aggCells : SV → Option (List SC)
  | .agg l => some l
  | .one (.dat e (.agg fs)) => some (idxCells e 0 fs.toL)
  | _ => none

def opField (P : Program) (σ : St) (pc : Cond) (o : Oper) : Option Pl :=
  match o.op with
  | .field t x f =>
    match fieldOf P t f, (getV P σ pc x t).bind aggCells with
    | some (fl, n), some cs =>
      if (P.underlying fl.type).isSome = true ∧ fl.offset + n ≤ cs.length then
        if aggT P fl.type then some (.agg ((cs.drop fl.offset).take n), [])
        else if 0 < n then match cs[fl.offset]? with
          | some c => some (.one c, [])
          | none => none
        else none
      else none
    | _, _ => none
  | _ => none

/-- An array's element, at a constant. -/
def opIndexArr (P : Program) (σ : St) (pc : Cond) (o : Oper) : Option Pl :=
  match o.op with
  | .indexAddr t x (.const (.int _ n)) =>
    match P.underlying t, getV P σ pc x t with
    | some (.array len el), some (.one (.adr id off)) =>
      match sizeT P el with
      | some sz => if 0 ≤ n ∧ n < len then some (.one (.adr id (off + n.toNat * sz)), []) else none
      | none => none
    | _, _ => none
  | _ => none
def opIndexSl (P : Program) (σ : St) (pc : Cond) (o : Oper) : Option Pl :=
  match o.op with
  | .indexAddr t x i =>
    match P.underlying t, getD_ P σ pc x t, getD_ P σ pc i t with
    | some (.slice el), some (e, .list u), some (ie, .int k) =>
      if sizeT P el = some u.cells.length ∧ 0 < u.cells.length then
        some (.one (.eadr e ie u 0), [.obl pc (.bin .and (.bin .le (.kint k 0) ie) (.bin .lt ie (.un .len e)))])
      else none
    | _, _, _ => none
  | _ => none
def opIndexAddr (P : Program) (σ : St) (pc : Cond) (o : Oper) : Option Pl :=
  match opIndexArr P σ pc o with
  | some x => some x
  | none => opIndexSl P σ pc o

def opNil (P : Program) (σ : St) (pc : Cond) (o : Oper) : Option Pl :=
  match o.op with
  | .nilCheck x =>
    match getV P σ pc x o.type with
    | some (.one (.adr id off)) => some (.one (.adr id off), [])
    | some (.one (.padr e fs off)) => some (.one (.padr e fs off), [])
    | some (.one (.eadr l i u off)) => some (.one (.eadr l i u off), [])
    | some (.one (.xadr g i u off)) => some (.one (.xadr g i u off), [])
    | some (.one (.dat e (.box fs))) => some (.one (.dat e (.box fs)), [])
    | some (.one (.dat e (.ptr fs))) => some (.one (.dat e (.box fs)), [.obl pc (.un .not (.un .isnil e))])
    | _ => none
  | _ => none

def elemLoad (P : Program) (T : TypeId) (e : E) (u : Ty) (off : Nat) : Option Pl :=
  match u, sizeT P T with
  | .agg fs, some n =>
    if aggT P T then
      if off = 0 ∧ n = fs.toL.length then some (.one (.dat e (.agg fs)), [])
      else if off + n ≤ fs.toL.length then some (.one (.dat (.un (.part off n) e) (.agg (.ofL ((fs.toL.drop off).take n)))), []) else none
    else match fs.toL[off]? with
      | some t => if t.scalar then some (.one (.dat (.un (.cell off) e) t), []) else none
      | none => none
  | u, _ => if aggT P T = false ∧ off = 0 ∧ u.scalar = true then some (.one (.dat e u), []) else none

/-- A load; the box that it reads. -/
def opLoad (P : Program) (σ : St) (pc : Cond) (o : Oper) : Option (Pl × List Nat) :=
  match o.op with
  | .load t x =>
    if (P.underlying t).isNone then none else
    match getV P σ pc x t with
    | some (.one (.adr id off)) =>
      match σ.hp id with
      | some (_, cs) =>
        if aggT P t then
          match sizeT P t with
          | some n => if off + n ≤ cs.length then some ((.agg ((cs.drop off).take n), []), [id]) else none
          | none => none
        else match cs[off]? with
          | some c => some ((.one c, []), [id])
          | none => none
      | none => none
    | some (.one (.eadr l i u off)) => (elemLoad P t (.bin .idx l i) u off).map fun s => (s, [])
    | some (.one (.padr e fs off)) => (elemLoad P t (.un .agg e) (.agg fs) off).map fun s => (s, [])
    | some (.one (.dat e (.box fs))) => (elemLoad P t (.un .agg e) (.agg fs) 0).map fun s => (s, [])
    | _ => none
  | _ => none

def opLen (P : Program) (σ : St) (pc : Cond) (o : Oper) : Option Pl :=
  match o.op with
  | .call { callee := .builtin .len, args, argTypes } =>
    match args.toList, argTypes[0]? with
    | [x], some t => match P.underlying t, getD_ P σ pc x t with
      | some (.slice _), some (e, .list _) => some (.one (.dat (.un .len e) (.int .i64)), [])
      | _, _ => none
    | _, _ => none
  | .call { callee := .builtin .min, args, .. } =>
    match args.toList with
    | [x, y] => match getD_ P σ pc x o.type, getD_ P σ pc y o.type with
      | some (ex, .int k), some (ey, .int k') => if k = k' then some (.one (.dat (.bin (.min k) ex ey) (.int k)), []) else none
      | _, _ => none
    | _ => none
  | .call { callee := .builtin .max, args, .. } =>
    match args.toList with
    | [x, y] => match getD_ P σ pc x o.type, getD_ P σ pc y o.type with
      | some (ex, .int k), some (ey, .int k') => if k = k' then some (.one (.dat (.bin (.max k) ex ey) (.int k)), []) else none
      | _, _ => none
    | _ => none
  | _ => none

/-- x[lo:hi] of a slice that is only read. -/
def opSlice (P : Program) (σ : St) (pc : Cond) (o : Oper) : Option Pl :=
  match o.op with
  | .slice t x lo hi none =>
    match P.underlying t, getD_ P σ pc x t with
    | some (.slice el), some (e, .list u) =>
      let lo' := match lo with
        | some i => match getD_ P σ pc i t with | some (ie, .int k) => some (ie, k) | _ => none
        | none => some (.kint .i64 0, .i64)
      let hi' := match hi with
        | some i => match getD_ P σ pc i t with | some (ie, .int k) => some (ie, k) | _ => none
        | none => some (.un .len e, .i64)
      match lo', hi' with
      | some (l, k), some (h, _) =>
        if sizeT P el = some u.cells.length ∧ 0 < u.cells.length then
          some (.one (.dat (.bin .drop (.bin .take e h) l) (.list u)), [.obl pc (.bin .and (.bin .le (.kint k 0) l) (.bin .and (.bin .le l h) (.bin .le h (.un .len e))))])
        else none
      | _, _ => none
    | _, _ => none
  | _ => none

/-- x[:hi:hi]: a slice with no room behind it. -/
def opSlice3 (P : Program) (σ : St) (pc : Cond) (o : Oper) : Option Pl :=
  match o.op with
  | .slice t x none (some hi) (some mx) =>
    match P.underlying t, getD_ P σ pc x t, getD_ P σ pc hi t, getD_ P σ pc mx t with
    | some (.slice el), some (e, .list u), some (h, .int k), some (m, .int _) =>
      if sizeT P el = some u.cells.length ∧ 0 < u.cells.length ∧ h = m then
        some (.one (.clip (.bin .take e h) u), [.obl pc (.bin .and (.bin .le (.kint k 0) h) (.bin .le h (.un .len e)))])
      else none
    | _, _, _, _ => none
  | _ => none

section
variable {P : Program} {C : Cx} {w : World} {G : Gh} {σ : St} {a : Act} {o : Oper} {pc : Cond} {s : SV} {is : List Item} {Φ : Nat → List D → D} {Pre : Nat → List D → Prop}

theorem opMove_ok (ht : SimT C w G σ.tm a) (hpc : condB C.ρ pc = true) (h : opMove P σ pc o = some (s, is)) : Gives P C w G a o s := by
  unfold opMove at h
  split at h
  all_goals first
    | cases h; done
    | (rename_i x ho
       simp only [Option.map_eq_some_iff, Prod.mk.injEq] at h
       obtain ⟨s', h1, rfl, _⟩ := h
       exact ⟨a.eval x, by unfold execOp; simp only [ho]; rfl, getV_ok ht hpc h1⟩)

theorem condB_cons {ρ : Nat → D} {e : E} {b : Bool} {pc : Cond} : condB ρ ((e, b) :: pc) = true ↔ (den ρ e).toB = b ∧ condB ρ pc = true := by
  simp [condB]

theorem opPick_ok (ht : SimT C w G σ.tm a) (hpc : condB C.ρ pc = true)
    (h : opPick P σ pc o = some (s, is)) : Gives P C w G a o s := by
  unfold opPick at h
  split at h
  · rename_i c x y ho
    split at h
    · rename_i ec hc
      split at h
      · rename_i ex tx ey ty hx hy
        split at h
        · rename_i htt
          subst htt
          injection h with h; simp only [Prod.mk.injEq] at h; obtain ⟨rfl, _⟩ := h
          obtain ⟨c1, c2, c3⟩ := getD_ok ht hpc hc
          obtain ⟨b, hb⟩ := has_bool.1 c3
          have hv : a.eval c = .bool b := (hb ▸ c2).inv_bool
          have hcb : (den C.ρ ec).toB = b := by rw [hb]; rfl
          have kx : b = true → _ := fun hbt => getD_ok ht (condB_cons.2 ⟨hcb.trans hbt, hpc⟩) hx
          have ky : b = false → _ := fun hbf => getD_ok ht (condB_cons.2 ⟨hcb.trans hbf, hpc⟩) hy
          refine ⟨if b then a.eval x else a.eval y, ?_, ?_⟩
          · unfold execOp; simp only [ho, hv, asBool]; rfl
          · have hden := mkPick_den C.ρ tx ec ex ey (fun h1 => (kx (hcb ▸ h1)).2.2) (fun h1 => (ky (hcb ▸ h1)).2.2)
            refine ⟨mkPick_lt c1 (getD_lt ht hx) (getD_lt ht hy), ?_⟩
            rw [hden, hcb]
            cases b with
            | true => exact (kx rfl).2
            | false => exact (ky rfl).2
        · cases h
      · cases h
    · cases h
  · cases h

theorem inK_wrap (k : IntKind) (n : Int) : inK k (k.wrap n) := wrap_within k n

theorem inK_tmod {k : IntKind} {x y : Int} (hx : inK k x) : inK k (x.tmod y) := by
  obtain ⟨h1, h2⟩ := hx
  have hm0 : k.min ≤ 0 := by cases k <;> decide
  have hM0 : 0 ≤ k.max := by cases k <;> decide
  have hn : (x.tmod y).natAbs ≤ x.natAbs := by rw [Int.natAbs_tmod]; exact Nat.mod_le _ _
  rcases Int.le_total 0 x with h | h
  · have h3 := Int.tmod_nonneg y h
    exact ⟨by omega, by omega⟩
  · have e : x.tmod y = -((-x).tmod y) := by rw [Int.neg_tmod]; omega
    have h3 := Int.tmod_nonneg y (show 0 ≤ -x by omega)
    exact ⟨by omega, by omega⟩

end
end Go.Eng
