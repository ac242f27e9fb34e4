/-
  A run of the code in plain data, and that it is sound (1).
-/
import Derived.Test.YtippnelhkdjknaaE0
import Derived.Laws.Closers25b
import Derived.Great.BuildSlice
/- The operations that leave memory alone, one by one. -/
namespace Go.Eng
open Go Go.RowKit

abbrev Pl := SV × List Item

def ItemOk (C : Cx) (Φ : Nat → List D → D) (Pre : Nat → List D → Prop) : Item → Prop
  | .asm pc b => condB C.ρ pc = b
  | .obl pc e => e.lt C.N = true ∧ (condB C.ρ pc = true → (den C.ρ e).toB = true)
  | .call p f args pc => args.lt C.N = true ∧ p < C.N ∧ C.ρ p = Φ f (den C.ρ args).toL ∧ (condB C.ρ pc = true → Pre f (den C.ρ args).toL)
  | .room pc e bytes => e.lt C.N = true ∧ (condB C.ρ pc = true → (den C.ρ e).toL.length ≤ maxLen ∧ (den C.ρ e).toL.length * bytes ≤ 140737488355328)

/-- The operation gives a value that is as said, and leaves the world. -/
def Gives (P : Program) (C : Cx) (w : World) (G : Gh) (a : Act) (o : Oper) (s : SV) : Prop :=
  ∃ v, (execOp a.eval o).run P w = .ok (.value v) w ∧ RSV C w G s v

def opMove (P : Program) (σ : St) (pc : Cond) (o : Oper) : Option Pl :=
  match o.op with
  | .move x | .assign x => (getV P σ pc x o.type).map fun s => (s, [])
  | _ => none

def opPick (P : Program) (σ : St) (pc : Cond) (o : Oper) : Option Pl :=
  match o.op with
  | .pick c x y =>
    match getD_ P σ pc c o.type with
    | some (ec, .bool) =>
      match getD_ P σ ((ec, true) :: pc) x o.type, getD_ P σ ((ec, false) :: pc) y o.type with
      | some (ex, tx), some (ey, ty) => if tx = ty then some (.one (.dat (mkPick tx ec ex ey) tx), []) else none
      | _, _ => none
    | _ => none
  | _ => none

def binE : BinOp → IntKind → Option (B × Bool × Bool)
  | .add, k => some (.add k, false, false)
  | .sub, k => some (.sub k, false, false)
  | .mul, k => some (.mul k, false, false)
  | .rem, k => some (.rem k, false, true)
  | .quo, k => some (.quo k, false, true)
  | .xor, k => some (.xor k, false, false)
  | .lss, _ => some (.lt, true, false)
  | .leq, _ => some (.le, true, false)
  | .gtr, _ => some (.gt, true, false)
  | .geq, _ => some (.ge, true, false)
  | .eql, _ => some (.eq, true, false)
  | .neq, _ => some (.ne, true, false)
  | _, _ => none

/-- '==' of two struct values, cell by cell. -/
def eqE (P : Program) : Nat → TypeId → List (E × Ty) → List (E × Ty) → Option E
  | 0, _, _, _ => none
  | n + 1, t, xs, ys =>
    match P.underlying t with
    | some (.int _) => match xs, ys with
      | [(x, .int k)], [(y, .int k')] => if k = k' then some (.bin .eq x y) else none
      | _, _ => none
    | some .bool => match xs, ys with
      | [(x, .bool)], [(y, .bool)] => some (.bin .beq x y)
      | _, _ => none
    | some (.struct fs) =>
      if P.stoodInHeld t then none else
      fs.toList.foldr (fun f acc => match acc, sizeT P f.type with
        | some r, some sz =>
          if f.name ≠ "_" ∧ f.offset + sz ≤ xs.length ∧ f.offset + sz ≤ ys.length then
            match eqE P n f.type ((xs.drop f.offset).take sz) ((ys.drop f.offset).take sz) with
            | some e => some (.bin .and e r)
            | none => none
          else none
        | _, _ => none) (some (.kbool true))
    | _ => none

def cellsE (e : E) : Nat → List Ty → List (E × Ty)
  | _, [] => []
  | j, t :: r => (.un (.cell j) e, t) :: cellsE e (j + 1) r

/-- Is a variable's address nil? -/
def opBinAdr (P : Program) (σ : St) (pc : Cond) (o : Oper) : Option Pl :=
  match o.op with
  | .binOp op xt x y _ =>
    match getV P σ pc x xt, getD_ P σ pc y xt, P.underlying xt with
    | some (.one (.adr _ _)), some (.nilp, .ptr _), some (.pointer _) =>
      match op with
      | .eql => some (.one (.dat (.kbool false) .bool), [])
      | .neq => some (.one (.dat (.kbool true) .bool), [])
      | _ => none
    | _, _, _ => none
  | _ => none
def opBin (P : Program) (σ : St) (pc : Cond) (o : Oper) : Option Pl :=
  match o.op with
  | .binOp op xt x y _ =>
    match getD_ P σ pc x xt, getD_ P σ pc y xt with
    | some (ex, .int k), some (ey, .int k') =>
      if k = k' then
        match binE op k with
        | some (b, isB, nz) => some (.one (.dat (.bin b ex ey) (if isB then .bool else .int k)), if nz then [.obl pc (.bin .ne ey (.kint k 0))] else [])
        | none => none
      else none
    | some (ex, .bool), some (ey, .bool) =>
      match op, P.underlying xt with
      | .eql, some .bool => some (.one (.dat (.bin .beq ex ey) .bool), [])
      | .neq, some .bool => some (.one (.dat (.un .not (.bin .beq ex ey)) .bool), [])
      | _, _ => none
    | some (ex, .agg fs), some (ey, .agg gs) =>
      match aggT P xt, P.eqGuardType P.depth xt, eqE P fuelT xt (cellsE ex 0 fs.toL) (cellsE ey 0 gs.toL), op with
      | true, false, some e, .eql => some (.one (.dat e .bool), [])
      | true, false, some e, .neq => some (.one (.dat (.un .not e) .bool), [])
      | _, _, _, _ => none
    | some (ex, .ptr _), some (.nilp, .ptr _) =>
      match op, P.underlying xt with
      | .eql, some (.pointer _) => some (.one (.dat (.un .isnil ex) .bool), [])
      | .neq, some (.pointer _) => some (.one (.dat (.un .not (.un .isnil ex)) .bool), [])
      | _, _ => none
    | _, _ => none
  | _ => none
def opBin2 (P : Program) (σ : St) (pc : Cond) (o : Oper) : Option Pl :=
  match opBinAdr P σ pc o with
  | some r => some r
  | none => opBin P σ pc o

def opUn (P : Program) (σ : St) (pc : Cond) (o : Oper) : Option Pl :=
  match o.op with
  | .unOp .not t x => match getD_ P σ pc x t with
    | some (e, .bool) => some (.one (.dat (.un .not e) .bool), [])
    | _ => none
  | .unOp .neg t x => match getD_ P σ pc x t with
    | some (e, .int k) => some (.one (.dat (.un (.neg k) e) (.int k)), [])
    | _ => none
  | .convert s d x => match getD_ P σ pc x s, P.underlying s, P.underlying d with
    | some (e, .int _), some (.int _), some (.int k) => some (.one (.dat (.un (.wrapk k) e) (.int k)), [])
    | _, _, _ => none
  | _ => none

def opExtract (P : Program) (σ : St) (pc : Cond) (o : Oper) : Option Pl :=
  match o.op with
  | .extract x j => match getV P σ pc x o.type with
    | some (.tup l) => match l[j]? with
      | some (true, cs) => some (.agg cs, [])
      | some (false, [c]) => some (.one c, [])
      | _ => none
    | _ => none
  | _ => none

def fieldOf (P : Program) (t : TypeId) (f : Nat) : Option (Field × Nat) :=
  match P.underlying t with
  | some (.struct fs) => match fs[f]? with
    | some fl => (sizeT P fl.type).map fun n => (fl, n)
    | none => none
  | _ => none

def opFieldAddr (P : Program) (σ : St) (pc : Cond) (o : Oper) : Option Pl :=
  match o.op with
  | .fieldAddr t x f =>
    match fieldOf P t f, getV P σ pc x t with
    | some (fl, _ + 1), some (.one (.adr id off)) => some (.one (.adr id (off + fl.offset)), [])
    | some (fl, _ + 1), some (.one (.eadr l i u off)) => some (.one (.eadr l i u (off + fl.offset)), [])
    | some (fl, _ + 1), some (.one (.padr e fs off)) => some (.one (.padr e fs (off + fl.offset)), [])
    | some (fl, _ + 1), some (.one (.dat e (.box fs))) => some (.one (.padr e fs fl.offset), [])
    | some (fl, _ + 1), some (.one (.xadr g i u off)) => some (.one (.xadr g i u (off + fl.offset)), [])
    | _, _ => none
  | _ => none

def aggCells : SV → Option (List SC)
  | .agg l => some l
  | .one (.dat e (.agg fs)) => some (idxCells e 0 fs.toL)
  | _ => none

def opField (P : Program) (σ : St) (pc : Cond) (o : Oper) : Option Pl :=
  match o.op with
  | .field t x f =>
    match fieldOf P t f, (getV P σ pc x t).bind aggCells with
    | some (fl, n), some cs =>
      if (P.underlying fl.type).isSome = true ∧ fl.offset + n ≤ cs.length then
        if aggT P fl.type then some (.agg ((cs.drop fl.offset).take n), [])
        else if 0 < n then match cs[fl.offset]? with
          | some c => some (.one c, [])
          | none => none
        else none
      else none
    | _, _ => none
  | _ => none

/-- An array's element, at a constant. -/
def opIndexArr (P : Program) (σ : St) (pc : Cond) (o : Oper) : Option Pl :=
  match o.op with
  | .indexAddr t x (.const (.int _ n)) =>
    match P.underlying t, getV P σ pc x t with
    | some (.array len el), some (.one (.adr id off)) =>
      match sizeT P el with
      | some sz => if 0 ≤ n ∧ n < len then some (.one (.adr id (off + n.toNat * sz)), []) else none
      | none => none
    | _, _ => none
  | _ => none
def opIndexSl (P : Program) (σ : St) (pc : Cond) (o : Oper) : Option Pl :=
  match o.op with
  | .indexAddr t x i =>
    match P.underlying t, getD_ P σ pc x t, getD_ P σ pc i t with
    | some (.slice el), some (e, .list u), some (ie, .int k) =>
      if sizeT P el = some u.cells.length ∧ 0 < u.cells.length then
        some (.one (.eadr e ie u 0), [.obl pc (.bin .and (.bin .le (.kint k 0) ie) (.bin .lt ie (.un .len e)))])
      else none
    | _, _, _ => none
  | _ => none
def opIndexAddr (P : Program) (σ : St) (pc : Cond) (o : Oper) : Option Pl :=
  match opIndexArr P σ pc o with
  | some x => some x
  | none => opIndexSl P σ pc o

def opNil (P : Program) (σ : St) (pc : Cond) (o : Oper) : Option Pl :=
  match o.op with
  | .nilCheck x =>
    match getV P σ pc x o.type with
    | some (.one (.adr id off)) => some (.one (.adr id off), [])
    | some (.one (.padr e fs off)) => some (.one (.padr e fs off), [])
    | some (.one (.eadr l i u off)) => some (.one (.eadr l i u off), [])
    | some (.one (.xadr g i u off)) => some (.one (.xadr g i u off), [])
    | some (.one (.dat e (.box fs))) => some (.one (.dat e (.box fs)), [])
    | some (.one (.dat e (.ptr fs))) => some (.one (.dat e (.box fs)), [.obl pc (.un .not (.un .isnil e))])
    | _ => none
  | _ => none

def elemLoad (P : Program) (T : TypeId) (e : E) (u : Ty) (off : Nat) : Option Pl :=
  match u, sizeT P T with
  | .agg fs, some n =>
    if aggT P T then
      if off = 0 ∧ n = fs.toL.length then some (.one (.dat e (.agg fs)), [])
      else if off + n ≤ fs.toL.length then some (.one (.dat (.un (.part off n) e) (.agg (.ofL ((fs.toL.drop off).take n)))), []) else none
    else match fs.toL[off]? with
      | some t => if t.scalar then some (.one (.dat (.un (.cell off) e) t), []) else none
      | none => none
  | u, _ => if aggT P T = false ∧ off = 0 ∧ u.scalar = true then some (.one (.dat e u), []) else none

/-- A load; the box that it reads. -/
def opLoad (P : Program) (σ : St) (pc : Cond) (o : Oper) : Option (Pl × List Nat) :=
  match o.op with
  | .load t x =>
    if (P.underlying t).isNone then none else
    match getV P σ pc x t with
    | some (.one (.adr id off)) =>
      match σ.hp id with
      | some (_, cs) =>
        if (mapOf cs).isSome then none else
        if aggT P t then
          match sizeT P t with
          | some n => if off + n ≤ cs.length then some ((.agg ((cs.drop off).take n), []), [id]) else none
          | none => none
        else match cs[off]? with
          | some c => some ((.one c, []), [id])
          | none => none
      | none => none
    | some (.one (.eadr l i u off)) => (elemLoad P t (.bin .idx l i) u off).map fun s => (s, [])
    | some (.one (.padr e fs off)) => (elemLoad P t (.un .agg e) (.agg fs) off).map fun s => (s, [])
    | some (.one (.dat e (.box fs))) => (elemLoad P t (.un .agg e) (.agg fs) 0).map fun s => (s, [])
    | _ => none
  | _ => none

def opLen (P : Program) (σ : St) (pc : Cond) (o : Oper) : Option Pl :=
  match o.op with
  | .call { callee := .builtin .len, args, argTypes } =>
    match args.toList, argTypes[0]? with
    | [x], some t => match P.underlying t, getD_ P σ pc x t with
      | some (.slice _), some (e, .list _) => some (.one (.dat (.un .len e) (.int .i64)), [])
      | _, _ => none
    | _, _ => none
  | .call { callee := .builtin .min, args, .. } =>
    match args.toList with
    | [x, y] => match getD_ P σ pc x o.type, getD_ P σ pc y o.type with
      | some (ex, .int k), some (ey, .int k') => if k = k' then some (.one (.dat (.bin (.min k) ex ey) (.int k)), []) else none
      | _, _ => none
    | _ => none
  | .call { callee := .builtin .max, args, .. } =>
    match args.toList with
    | [x, y] => match getD_ P σ pc x o.type, getD_ P σ pc y o.type with
      | some (ex, .int k), some (ey, .int k') => if k = k' then some (.one (.dat (.bin (.max k) ex ey) (.int k)), []) else none
      | _, _ => none
    | _ => none
  | _ => none

/-- x[lo:hi] of a slice that is only read. -/
def opSlice (P : Program) (σ : St) (pc : Cond) (o : Oper) : Option Pl :=
  match o.op with
  | .slice t x lo hi none =>
    match P.underlying t, getD_ P σ pc x t with
    | some (.slice el), some (e, .list u) =>
      let lo' := match lo with
        | some i => match getD_ P σ pc i t with | some (ie, .int k) => some (ie, k) | _ => none
        | none => some (.kint .i64 0, .i64)
      let hi' := match hi with
        | some i => match getD_ P σ pc i t with | some (ie, .int k) => some (ie, k) | _ => none
        | none => some (.un .len e, .i64)
      match lo', hi' with
      | some (l, k), some (h, _) =>
        if sizeT P el = some u.cells.length ∧ 0 < u.cells.length then
          some (.one (.dat (.bin .drop (.bin .take e h) l) (.list u)), [.obl pc (.bin .and (.bin .le (.kint k 0) l) (.bin .and (.bin .le l h) (.bin .le h (.un .len e))))])
        else none
      | _, _ => none
    | _, _ => none
  | _ => none

/-- x[:hi:hi]: a slice with no room behind it. -/
def opSlice3 (P : Program) (σ : St) (pc : Cond) (o : Oper) : Option Pl :=
  match o.op with
  | .slice t x none (some hi) (some mx) =>
    match P.underlying t, getD_ P σ pc x t, getD_ P σ pc hi t, getD_ P σ pc mx t with
    | some (.slice el), some (e, .list u), some (h, .int k), some (m, .int _) =>
      if sizeT P el = some u.cells.length ∧ 0 < u.cells.length ∧ h = m then
        some (.one (.clip (.bin .take e h) u), [.obl pc (.bin .and (.bin .le (.kint k 0) h) (.bin .le h (.un .len e)))])
      else none
    | _, _, _, _ => none
  | _ => none

section
variable {P : Program} {C : Cx} {w : World} {G : Gh} {σ : St} {a : Act} {o : Oper} {pc : Cond} {s : SV} {is : List Item} {Φ : Nat → List D → D} {Pre : Nat → List D → Prop}

theorem opMove_ok (ht : SimT C w G σ.tm a) (hpc : condB C.ρ pc = true) (h : opMove P σ pc o = some (s, is)) : Gives P C w G a o s := by
  unfold opMove at h
  split at h
  all_goals first
    | cases h; done
    | (rename_i x ho
       simp only [Option.map_eq_some_iff, Prod.mk.injEq] at h
       obtain ⟨s', h1, rfl, _⟩ := h
       exact ⟨a.eval x, by unfold execOp; simp only [ho]; rfl, getV_ok ht hpc h1⟩)

theorem condB_cons {ρ : Nat → D} {e : E} {b : Bool} {pc : Cond} : condB ρ ((e, b) :: pc) = true ↔ (den ρ e).toB = b ∧ condB ρ pc = true := by
  simp [condB]

theorem opPick_ok (ht : SimT C w G σ.tm a) (hpc : condB C.ρ pc = true)
    (h : opPick P σ pc o = some (s, is)) : Gives P C w G a o s := by
  unfold opPick at h
  split at h
  · rename_i c x y ho
    split at h
    · rename_i ec hc
      split at h
      · rename_i ex tx ey ty hx hy
        split at h
        · rename_i htt
          subst htt
          injection h with h; simp only [Prod.mk.injEq] at h; obtain ⟨rfl, _⟩ := h
          obtain ⟨c1, c2, c3⟩ := getD_ok ht hpc hc
          obtain ⟨b, hb⟩ := has_bool.1 c3
          have hv : a.eval c = .bool b := (hb ▸ c2).inv_bool
          have hcb : (den C.ρ ec).toB = b := by rw [hb]; rfl
          have kx : b = true → _ := fun hbt => getD_ok ht (condB_cons.2 ⟨hcb.trans hbt, hpc⟩) hx
          have ky : b = false → _ := fun hbf => getD_ok ht (condB_cons.2 ⟨hcb.trans hbf, hpc⟩) hy
          refine ⟨if b then a.eval x else a.eval y, ?_, ?_⟩
          · unfold execOp; simp only [ho, hv, asBool]; rfl
          · have hden := mkPick_den C.ρ tx ec ex ey (fun h1 => (kx (hcb ▸ h1)).2.2) (fun h1 => (ky (hcb ▸ h1)).2.2)
            refine ⟨mkPick_lt c1 (getD_lt ht hx) (getD_lt ht hy), ?_⟩
            rw [hden, hcb]
            cases b with
            | true => exact (kx rfl).2
            | false => exact (ky rfl).2
        · cases h
      · cases h
    · cases h
  · cases h

theorem inK_wrap (k : IntKind) (n : Int) : inK k (k.wrap n) := wrap_within k n

theorem inK_tmod {k : IntKind} {x y : Int} (hx : inK k x) : inK k (x.tmod y) := by
  obtain ⟨h1, h2⟩ := hx
  have hm0 : k.min ≤ 0 := by cases k <;> decide
  have hM0 : 0 ≤ k.max := by cases k <;> decide
  have hn : (x.tmod y).natAbs ≤ x.natAbs := by rw [Int.natAbs_tmod]; exact Nat.mod_le _ _
  rcases Int.le_total 0 x with h | h
  · have h3 := Int.tmod_nonneg y h
    exact ⟨by omega, by omega⟩
  · have e : x.tmod y = -((-x).tmod y) := by rw [Int.neg_tmod]; omega
    have h3 := Int.tmod_nonneg y (show 0 ≤ -x by omega)
    exact ⟨by omega, by omega⟩

end
end Go.Eng
/- That each of these operations gives what is said. -/
namespace Go.Eng
open Go Go.RowKit

section
variable {P : Program} {C : Cx} {w : World} {G : Gh} {σ : St} {a : Act} {o : Oper} {pc : Cond} {s : SV} {is : List Item} {Φ : Nat → List D → D} {Pre : Nat → List D → Prop}

theorem run_bin_int {op : BinOp} {k : IntKind} {b : B} {isB nz : Bool} (h : binE op k = some (b, isB, nz)) {x y : Int} (hx : inK k x) (hnz : nz = true → y ≠ 0) (t : TypeId) (p q : Operand) :
    ∃ v, (do eqGuard op t p q (.int k x) (.int k y); binOp op t (.int k x) (.int k y) : Sem Value).run P w = .ok v w ∧ ∀ S, Rep w S v (b.den (.int k x) (.int k y)) ∧ Has (if isB then .bool else .int k) (b.den (.int k x) (.int k y)) := by
  have hI : ∀ n : Int, inK k n → Has (.int k) (.int k n) := fun n hn => has_int.2 ⟨n, rfl, hn⟩
  have hB : ∀ n : Bool, Has .bool (.bool n) := fun n => has_bool.2 ⟨n, rfl⟩
  cases op <;> simp only [binE, Option.some.injEq, Prod.mk.injEq] at h <;> (try (cases h; done)) <;> obtain ⟨rfl, rfl, rfl⟩ := h
  case rem =>
    have hy0 := hnz rfl
    refine ⟨.int k (x.tmod y), by simp [eqGuard, binOp, Op.intDiv, hy0], fun S => ⟨.int _ _, hI _ (inK_tmod hx)⟩⟩
  case quo =>
    have hy0 := hnz rfl
    refine ⟨.int k (k.wrap (x.tdiv y)), by simp [eqGuard, binOp, Op.intDiv, hy0], fun S => ⟨.int _ _, hI _ (inK_wrap _ _)⟩⟩
  all_goals first
    | exact ⟨.int k (k.wrap (x + y)), by simp [eqGuard, binOp, Op.intArith], fun S => ⟨.int _ _, hI _ (inK_wrap _ _)⟩⟩
    | exact ⟨.int k (k.wrap (x - y)), by simp [eqGuard, binOp, Op.intArith], fun S => ⟨.int _ _, hI _ (inK_wrap _ _)⟩⟩
    | exact ⟨.int k (k.wrap (x * y)), by simp [eqGuard, binOp, Op.intArith], fun S => ⟨.int _ _, hI _ (inK_wrap _ _)⟩⟩
    | exact ⟨.int k (bitXor k x y), by simp [eqGuard, binOp, Op.intBits, bitXor], fun S => ⟨.int _ _, hI _ (inK_wrap _ _)⟩⟩
    | exact ⟨.bool (decide (x < y)), by simp [eqGuard, binOp, Op.intCmp], fun S => ⟨.bool _, hB _⟩⟩
    | exact ⟨.bool (decide (x ≤ y)), by simp [eqGuard, binOp, Op.intCmp], fun S => ⟨.bool _, hB _⟩⟩
    | exact ⟨.bool (decide (x > y)), by simp [eqGuard, binOp, Op.intCmp], fun S => ⟨.bool _, hB _⟩⟩
    | exact ⟨.bool (decide (x ≥ y)), by simp [eqGuard, binOp, Op.intCmp], fun S => ⟨.bool _, hB _⟩⟩
    | exact ⟨.bool (x == y), by simp [eqGuard, binOp, Op.intCmp], fun S => ⟨.bool _, hB _⟩⟩
    | exact ⟨.bool (x != y), by simp [eqGuard, binOp, Op.intCmp], fun S => ⟨.bool _, hB _⟩⟩

theorem run_equalIn_nilptr {t el : TypeId} (hu : P.underlying t = some (.pointer el)) (p : Option Addr) (d : Nat) : (Op.equalIn (d + 1) t (.pointer p) (.pointer none)).run P w = .ok p.isNone w := by
  cases p <;> simp [Op.equalIn, run_underlying hu]
theorem run_eq_nilptr {t el : TypeId} (hu : P.underlying t = some (.pointer el)) (p : Option Addr) (x y : Operand) :
    (do eqGuard .eql t x y (.pointer p) (.pointer none); binOp .eql t (.pointer p) (.pointer none) : Sem Value).run P w = .ok (.bool p.isNone) w := by
  have h1 : binOp .eql t (.pointer p) (.pointer none) = (do pure (.bool (← Op.equalIn (9999 + 1) t (.pointer p) (.pointer none)))) := rfl
  have h2 : eqGuard .eql t x y (.pointer p) (.pointer none) = pure () := rfl
  rw [h1, h2, Sem.run_bind, Sem.run_pure, Result.andThen_ok, Sem.run_bind, run_equalIn_nilptr hu]; rfl
theorem run_ne_nilptr {t el : TypeId} (hu : P.underlying t = some (.pointer el)) (p : Option Addr) (x y : Operand) :
    (do eqGuard .neq t x y (.pointer p) (.pointer none); binOp .neq t (.pointer p) (.pointer none) : Sem Value).run P w = .ok (.bool (!p.isNone)) w := by
  have h1 : binOp .neq t (.pointer p) (.pointer none) = (do pure (.bool (!(← Op.equalIn (9999 + 1) t (.pointer p) (.pointer none))))) := rfl
  have h2 : eqGuard .neq t x y (.pointer p) (.pointer none) = pure () := rfl
  rw [h1, h2, Sem.run_bind, Sem.run_pure, Result.andThen_ok, Sem.run_bind, run_equalIn_nilptr hu]; rfl

/-- A value out of its cells. -/
def valOf (P : Program) (t : TypeId) (vs : List Value) : Value := if aggT P t then .agg vs.toArray else vs.getD 0 undef

theorem run_isAgg {t : TypeId} {d : TypeDesc} (hu : P.underlying t = some d) : (isAgg t).run P w = .ok (aggT P t) w := by
  unfold isAgg aggT
  rw [Sem.run_bind, run_underlying hu w]
  simp only [Result.andThen_ok, hu]
  cases d <;> rfl

theorem run_sizeT {t : TypeId} {n : Nat} (h : sizeT P t = some n) : (sizeOf t).run P w = .ok n w := by
  unfold sizeT at h
  cases hi : P.info? t with
  | none => simp [hi] at h
  | some i => simp [hi] at h; simp [sizeOf, typeInfo, hi, h]

theorem run_part {t : TypeId} {d : TypeDesc} (hu : P.underlying t = some d) {n off : Nat} (hs : sizeT P t = some n) (vs : List Value) (hn : off + n ≤ vs.length) (h0 : aggT P t = false → 0 < n) :
    (part t vs.toArray off).run P w = .ok (valOf P t ((vs.drop off).take n)) w := by
  unfold part valOf
  rw [Sem.run_bind, run_isAgg hu]
  simp only [Result.andThen_ok]
  cases ha : aggT P t with
  | true =>
    simp only [if_true, Sem.run_bind, run_sizeT hs, Result.andThen_ok, Sem.run_pure]
    congr 2
    apply Array.ext'
    simp [List.extract_eq_take_drop]
  | false =>
    have h1 := h0 ha
    have hlt : off < vs.length := by omega
    simp only [Bool.false_eq_true, if_false]
    have e1 : (vs.toArray)[off]? = some vs[off] := by simp [hlt]
    have e2 : ((vs.drop off).take n).getD 0 undef = vs[off] := by
      simp [List.getD, List.getElem?_drop, show 0 < n from h1, hlt]
    rw [e1, e2]
    rfl

def RepC (ρ : Nat → D) (w : World) (S : Foot) (vs : List Value) (xs : List (E × Ty)) : Prop :=
  vs.length = xs.length ∧ ∀ (i : Nat) v x, vs[i]? = some v → xs[i]? = some x → Rep w S v (den ρ x.1) ∧ Has x.2 (den ρ x.1)

theorem RepC.cut {ρ : Nat → D} {S : Foot} {vs : List Value} {xs : List (E × Ty)} (h : RepC ρ w S vs xs) (off n : Nat) : RepC ρ w S ((vs.drop off).take n) ((xs.drop off).take n) := by
  refine ⟨by simp [h.1], fun i v x hv hx => ?_⟩
  simp only [List.getElem?_take, List.getElem?_drop] at hv hx
  split at hv
  · rename_i hi; rw [if_pos hi] at hx; exact h.2 _ v x hv hx
  · cases hv

theorem eqE_ok (ρ : Nat → D) (S : Foot) : ∀ (n : Nat) (t : TypeId) (xs ys : List (E × Ty)) (e : E), eqE P n t xs ys = some e → ∀ (vx vy : List Value) (d : Nat), RepC ρ w S vx xs → RepC ρ w S vy ys →
    (Op.equalIn (d + n) t (valOf P t vx) (valOf P t vy)).run P w = .ok (den ρ e).toB w ∧ (∃ b, den ρ e = .bool b) ∧ (aggT P t = false → 0 < vx.length)
  | 0, _, _, _, _, h => by cases h
  | n + 1, t, xs, ys, e, h => by
    intro vx vy d hx hy
    unfold eqE at h
    split at h
    · rename_i k0 hu
      have ha : aggT P t = false := by unfold aggT; rw [hu]
      split at h
      · rename_i x k y k'
        split at h
        · rename_i hk
          subst hk
          injection h with h; subst h
          obtain ⟨v, rfl⟩ : ∃ v, vx = [v] := List.length_eq_one_iff.1 hx.1
          obtain ⟨u, rfl⟩ : ∃ v, vy = [v] := List.length_eq_one_iff.1 hy.1
          obtain ⟨h1, h2⟩ := hx.2 0 v _ rfl rfl
          obtain ⟨h3, h4⟩ := hy.2 0 u _ rfl rfl
          obtain ⟨i, hi, _⟩ := has_int.1 h2
          obtain ⟨j, hj, _⟩ := has_int.1 h4
          simp only at h1 h3 hi hj
          have e1 := (hi ▸ h1).inv_int
          have e2 := (hj ▸ h3).inv_int
          refine ⟨?_, ⟨_, rfl⟩, fun _ => by simp⟩
          simp only [valOf, ha, Bool.false_eq_true, if_false, List.getD_cons_zero, e1, e2, den, B.den, hi, hj, D.toI, D.toB]
          exact run_equalIn_int w (d + n) t k k0 i j hu
        · cases h
      · cases h
    · rename_i hu
      have ha : aggT P t = false := by unfold aggT; rw [hu]
      split at h
      · rename_i x y
        injection h with h; subst h
        obtain ⟨v, rfl⟩ : ∃ v, vx = [v] := List.length_eq_one_iff.1 hx.1
        obtain ⟨u, rfl⟩ : ∃ v, vy = [v] := List.length_eq_one_iff.1 hy.1
        obtain ⟨h1, h2⟩ := hx.2 0 v _ rfl rfl
        obtain ⟨h3, h4⟩ := hy.2 0 u _ rfl rfl
        obtain ⟨i, hi⟩ := has_bool.1 h2
        obtain ⟨j, hj⟩ := has_bool.1 h4
        simp only at h1 h3 hi hj
        have e1 := (hi ▸ h1).inv_bool
        have e2 := (hj ▸ h3).inv_bool
        refine ⟨?_, ⟨_, rfl⟩, fun _ => by simp⟩
        simp only [valOf, ha, Bool.false_eq_true, if_false, List.getD_cons_zero, e1, e2, den, B.den, hi, hj, D.toB]
        exact run_equalIn_bool' w (d + n) t i j hu
      · cases h
    · rename_i fs hu
      have ha : aggT P t = true := by unfold aggT; rw [hu]
      split at h
      · cases h
      · rename_i hst
        have hfo : P.fieldsOf t = fs := by unfold Program.fieldsOf; rw [hu]
        have hst' : P.stoodInHeld t = false := by simpa using hst
        have key : ∀ (l : List Field) (e : E), l.foldr (fun f acc => match acc, sizeT P f.type with
            | some r, some sz =>
              if f.name ≠ "_" ∧ f.offset + sz ≤ xs.length ∧ f.offset + sz ≤ ys.length then
                match eqE P n f.type ((xs.drop f.offset).take sz) ((ys.drop f.offset).take sz) with
                | some e => some (.bin .and e r)
                | none => none
              else none
            | _, _ => none) (some (.kbool true)) = some e →
            (Op.eqFields (d + n) vx.toArray vy.toArray l).run P w = .ok (den ρ e).toB w ∧ ∃ b, den ρ e = .bool b := by
          intro l
          induction l with
          | nil =>
            intro e he
            simp only [List.foldr_nil, Option.some.injEq] at he
            subst he
            exact ⟨rfl, _, rfl⟩
          | cons f l ih =>
            intro e he
            simp only [List.foldr_cons] at he
            split at he
            · rename_i r sz hr hsz
              split at he
              · rename_i hc
                split at he
                · rename_i e0 he0
                  injection he with he; subst he
                  obtain ⟨hr1, b, hb⟩ := ih r hr
                  have cx := hx.cut f.offset sz
                  have cy := hy.cut f.offset sz
                  obtain ⟨k1, ⟨b0, hb0⟩, k3⟩ := eqE_ok ρ S n f.type _ _ e0 he0 _ _ d cx cy
                  obtain ⟨dsc, hud⟩ : ∃ dsc, P.underlying f.type = some dsc := by
                    cases n with
                    | zero => cases he0
                    | succ n =>
                      unfold eqE at he0
                      cases hq : P.underlying f.type with
                      | none => rw [hq] at he0; cases he0
                      | some q => exact ⟨q, rfl⟩
                  have pos : aggT P f.type = false → 0 < sz := by
                    intro h; have := k3 h; simp only [List.length_take, List.length_drop] at this; omega
                  have p1 := run_part (w := w) hud hsz vx (by rw [hx.1]; exact hc.2.1) pos
                  have p2 := run_part (w := w) hud hsz vy (by rw [hy.1]; exact hc.2.2) pos
                  refine ⟨?_, _, rfl⟩
                  simp only [Op.eqFields, if_pos hc.1, Sem.run_bind, p1, p2, Result.andThen_ok, k1]
                  rw [hb0]
                  cases b0 with
                  | false => simp [D.toB, den, B.den, hb0]
                  | true => simpa [D.toB, den, B.den, hb0] using hr1
                · cases he
              · cases he
            · cases he
        obtain ⟨k1, k2⟩ := key fs.toList e h
        refine ⟨?_, k2, fun hf => by rw [ha] at hf; cases hf⟩
        simp only [valOf, ha, if_true]
        have := run_equalIn_struct (P := P) w (d + n) t vx.toArray vy.toArray (by rw [hfo]; exact hu) hst'
        rw [hfo] at this
        rw [show d + (n + 1) = d + n + 1 from rfl, this]
        exact k1
    · cases h

theorem cellsE_get (e : E) : ∀ (ts : List Ty) (j i : Nat), (cellsE e j ts)[i]? = (ts[i]?).map fun t => (E.un (.cell (j + i)) e, t)
  | [], j, i => by simp [cellsE]
  | t :: ts, j, 0 => by simp [cellsE]
  | t :: ts, j, i + 1 => by simp only [cellsE, List.getElem?_cons_succ, cellsE_get e ts (j + 1) i]; congr 2; funext t; congr 3; omega
theorem cellsE_len (e : E) : ∀ (ts : List Ty) (j : Nat), (cellsE e j ts).length = ts.length
  | [], _ => rfl
  | _ :: ts, j => by simp [cellsE, cellsE_len e ts]

theorem repC_cells {ρ : Nat → D} {S : Foot} {v : Value} {e : E} {fs : Ty} (hr : Rep w S v (den ρ e)) (hh : Has (.agg fs) (den ρ e)) : ∃ vs : List Value, v = .agg vs.toArray ∧ RepC ρ w S vs (cellsE e 0 fs.toL) := by
  obtain ⟨l, hl, hh', cs, rfl, hlen, hc⟩ := hr.aggOf hh
  refine ⟨cs, rfl, by rw [cellsE_len, hlen, hasL_len hh'], fun i v x hv hx => ?_⟩
  rw [cellsE_get] at hx
  simp only [Option.map_eq_some_iff] at hx
  obtain ⟨t, ht, rfl⟩ := hx
  obtain ⟨x, hx, hhx⟩ := hasL_get hh' i t ht
  have hd : den ρ (.un (.cell (0 + i)) e) = x := by simp only [den, U.den, hl, D.toL, Nat.zero_add]; exact toL_getD hx
  rw [hd]
  exact ⟨hc i v x hv hx, hhx⟩

theorem opBin_ok (ht : SimT C w G σ.tm a) (hpc : condB C.ρ pc = true) (h : opBin P σ pc o = some (s, is)) (hit : ∀ it ∈ is, ItemOk C Φ Pre it) : Gives P C w G a o s := by
  unfold opBin at h
  split at h
  · rename_i op xt x y yt ho
    have hexec : (execOp a.eval o) = (do let v ← (do eqGuard op xt x y (a.eval x) (a.eval y); binOp op xt (a.eval x) (a.eval y) : Sem Value); pure (.value v)) := by unfold execOp; simp only [ho]
    have fin : ∀ {v : Value}, (do eqGuard op xt x y (a.eval x) (a.eval y); binOp op xt (a.eval x) (a.eval y) : Sem Value).run P w = .ok v w → (execOp a.eval o).run P w = .ok (.value v) w := by
      intro v hv
      rw [hexec, Sem.run_bind, hv]; rfl
    split at h
    · rename_i ex k ey k' hx hy
      obtain ⟨x1, x2, x3⟩ := getD_ok ht hpc hx
      obtain ⟨y1, y2, y3⟩ := getD_ok ht hpc hy
      split at h
      · rename_i hk
        subst hk
        split at h
        · rename_i b isB nz hb
          injection h with h; simp only [Prod.mk.injEq] at h; obtain ⟨rfl, rfl⟩ := h
          obtain ⟨i, hi, hi'⟩ := has_int.1 x3
          obtain ⟨j, hj, _⟩ := has_int.1 y3
          have e1 := (hi ▸ x2).inv_int
          have e2 := (hj ▸ y2).inv_int
          have hnz : nz = true → j ≠ 0 := by
            rintro rfl
            have h7 : ItemOk C Φ Pre (.obl pc (.bin .ne ey (.kint k 0))) := hit _ (by simp)
            have := h7.2 hpc
            simpa [den, B.den, hj, D.toI, D.toB] using this
          obtain ⟨v, hv, hr⟩ := run_bin_int (P := P) (w := w) hb hi' hnz xt x y
          rw [← e1, ← e2] at hv
          refine ⟨v, fin hv, by simp [E.lt, x1, y1], ?_⟩
          simp only [den, hi, hj]
          exact hr G.S
        · cases h
      · cases h
    · rename_i ex ey hx hy
      obtain ⟨x1, x2, x3⟩ := getD_ok ht hpc hx
      obtain ⟨y1, y2, y3⟩ := getD_ok ht hpc hy
      obtain ⟨i, hi⟩ := has_bool.1 x3
      obtain ⟨j, hj⟩ := has_bool.1 y3
      have e1 := (hi ▸ x2).inv_bool
      have e2 := (hj ▸ y2).inv_bool
      split at h
      · rename_i hu
        injection h with h; simp only [Prod.mk.injEq] at h; obtain ⟨rfl, rfl⟩ := h
        refine ⟨.bool (i == j), fin ?_, by simp [E.lt, x1, y1], ?_, has_bool.2 ⟨_, rfl⟩⟩
        · rw [e1, e2]
          have := run_equalIn_bool' (P := P) w 9999 xt i j hu
          simp [eqGuard, binOp, Op.equal, Op.maxDepth, this]
        · simp only [den, B.den, hi, hj, D.toB]; exact .bool _
      · rename_i hu
        injection h with h; simp only [Prod.mk.injEq] at h; obtain ⟨rfl, rfl⟩ := h
        refine ⟨.bool (!(i == j)), fin ?_, by simp [E.lt, x1, y1], ?_, has_bool.2 ⟨_, rfl⟩⟩
        · rw [e1, e2]
          have := run_equalIn_bool' (P := P) w 9999 xt i j hu
          simp [eqGuard, binOp, Op.equal, Op.maxDepth, this]
        · simp only [den, B.den, U.den, hi, hj, D.toB]; exact .bool _
      · cases h
    · rename_i ex fs ey gs hx hy
      obtain ⟨x1, x2, x3⟩ := getD_ok ht hpc hx
      obtain ⟨y1, y2, y3⟩ := getD_ok ht hpc hy
      obtain ⟨vx, ex', rx⟩ := repC_cells x2 x3
      obtain ⟨vy, ey', ry⟩ := repC_cells y2 y3
      have ltc : ∀ {N : Nat} {e : E} (he : e.lt N = true) (j : Nat) (ts : List Ty), ∀ z ∈ cellsE e j ts, z.1.lt N = true := by
        intro N e he j ts z hz
        obtain ⟨i, hi⟩ := List.getElem?_of_mem hz
        rw [cellsE_get] at hi
        simp only [Option.map_eq_some_iff] at hi
        obtain ⟨t, _, rfl⟩ := hi
        simpa [E.lt] using he
      have lte : ∀ (N n : Nat) (t : TypeId) (xs ys : List (E × Ty)) (e : E), eqE P n t xs ys = some e → (∀ z ∈ xs, z.1.lt N = true) → (∀ z ∈ ys, z.1.lt N = true) → e.lt N = true := by
        intro N n
        induction n with
        | zero => intro t xs ys e h; cases h
        | succ n ih =>
          intro t xs ys e h hxs hys
          unfold eqE at h
          split at h
          · split at h
            · split at h
              · injection h with h; subst h
                have := hxs _ (List.mem_singleton.2 rfl); have := hys _ (List.mem_singleton.2 rfl); simp_all [E.lt]
              · cases h
            · cases h
          · split at h
            · injection h with h; subst h
              have := hxs _ (List.mem_singleton.2 rfl); have := hys _ (List.mem_singleton.2 rfl); simp_all [E.lt]
            · cases h
          · split at h
            · cases h
            · rename_i fs _ _
              revert h
              generalize fs.toList = l
              intro h
              induction l generalizing e with
              | nil => simp only [List.foldr_nil, Option.some.injEq] at h; subst h; rfl
              | cons f l ihl =>
                simp only [List.foldr_cons] at h
                split at h
                · rename_i r sz hr hsz
                  split at h
                  · split at h
                    · rename_i e0 he0
                      injection h with h; subst h
                      have h1 := ih f.type _ _ e0 he0 (fun z hz => hxs z (List.mem_of_mem_drop (List.mem_of_mem_take hz))) (fun z hz => hys z (List.mem_of_mem_drop (List.mem_of_mem_take hz)))
                      simp [E.lt, h1, ihl r hr]
                    · cases h
                  · cases h
                · cases h
          · cases h
      split at h
      · rename_i e ha hg he
        injection h with h; simp only [Prod.mk.injEq] at h; obtain ⟨rfl, rfl⟩ := h
        obtain ⟨k1, ⟨b, hb⟩, _⟩ := eqE_ok (P := P) (w := w) C.ρ G.S fuelT xt _ _ e he vx vy 9992 rx ry
        simp only [valOf, ha, if_true, fuelT] at k1
        refine ⟨.bool b, fin ?_, lte _ _ _ _ _ _ he (ltc x1 0 _) (ltc y1 0 _), by rw [hb]; exact .bool b, has_bool.2 ⟨b, hb⟩⟩
        rw [ex', ey']
        rw [Sem.run_bind, run_eqGuard_agg w .eql xt x y _ _ hg]
        simp only [Result.andThen_ok]
        rw [run_eql_struct, k1, hb]; rfl
      · rename_i e ha hg he
        injection h with h; simp only [Prod.mk.injEq] at h; obtain ⟨rfl, rfl⟩ := h
        obtain ⟨k1, ⟨b, hb⟩, _⟩ := eqE_ok (P := P) (w := w) C.ρ G.S fuelT xt _ _ e he vx vy 9992 rx ry
        simp only [valOf, ha, if_true, fuelT] at k1
        refine ⟨.bool (!b), fin ?_, by simpa [E.lt] using lte _ _ _ _ _ _ he (ltc x1 0 _) (ltc y1 0 _), by simp only [den, U.den, hb, D.toB]; exact .bool _, has_bool.2 ⟨!b, by simp only [den, U.den, hb, D.toB]⟩⟩
        rw [ex', ey']
        rw [Sem.run_bind, run_eqGuard_agg w .neq xt x y _ _ hg]
        simp only [Result.andThen_ok]
        rw [run_neq_struct, k1, hb]; rfl
      · cases h
    · rename_i ex fs gs hx hy
      obtain ⟨x1, x2, x3⟩ := getD_ok ht hpc hx
      obtain ⟨y1, y2, y3⟩ := getD_ok ht hpc hy
      have e2 : a.eval y = .pointer none := by simp only [den] at y2; exact y2.inv_nilp
      have e1 : ∃ p, a.eval x = .pointer p ∧ p.isNone = (den C.ρ ex).isNilp := by
        rcases has_ptr.1 x3 with hn | ⟨l, hl, _⟩
        · exact ⟨none, (hn ▸ x2).inv_nilp, by rw [hn]; rfl⟩
        · obtain ⟨b, cs, hv, _⟩ := (hl ▸ x2).inv_ptr
          exact ⟨_, hv, by rw [hl]; rfl⟩
      obtain ⟨p, hp, hpn⟩ := e1
      split at h
      · rename_i el hu
        injection h with h; simp only [Prod.mk.injEq] at h; obtain ⟨rfl, rfl⟩ := h
        refine ⟨.bool p.isNone, fin ?_, by simpa [E.lt] using x1, by simp only [den, U.den, ← hpn]; exact .bool _, has_bool.2 ⟨_, rfl⟩⟩
        rw [hp, e2]
        exact run_eq_nilptr hu p x y
      · rename_i el hu
        injection h with h; simp only [Prod.mk.injEq] at h; obtain ⟨rfl, rfl⟩ := h
        refine ⟨.bool (!p.isNone), fin ?_, by simpa [E.lt] using x1, by simp only [den, U.den, D.toB, ← hpn]; exact .bool _, has_bool.2 ⟨_, rfl⟩⟩
        rw [hp, e2]
        exact run_ne_nilptr hu p x y
      · cases h
    · cases h
  · cases h

theorem opBinAdr_ok (ht : SimT C w G σ.tm a) (hpc : condB C.ρ pc = true) (h : opBinAdr P σ pc o = some (s, is)) : Gives P C w G a o s := by
  unfold opBinAdr at h
  split at h
  · rename_i op xt x y yt ho
    have fin : ∀ {v : Value}, (do eqGuard op xt x y (a.eval x) (a.eval y); binOp op xt (a.eval x) (a.eval y) : Sem Value).run P w = .ok v w → (execOp a.eval o).run P w = .ok (.value v) w := by
      intro v hv
      have hexec : (execOp a.eval o) = (do let v ← (do eqGuard op xt x y (a.eval x) (a.eval y); binOp op xt (a.eval x) (a.eval y) : Sem Value); pure (.value v)) := by unfold execOp; simp only [ho]
      rw [hexec, Sem.run_bind, hv]; rfl
    split at h
    · rename_i id off ps el hx hy hu
      have e1 := (getV_ok ht hpc hx).2
      obtain ⟨_, y2, _⟩ := getD_ok ht hpc hy
      have e2 : a.eval y = .pointer none := by simp only [den] at y2; exact y2.inv_nilp
      split at h
      · injection h with h; simp only [Prod.mk.injEq] at h; obtain ⟨rfl, rfl⟩ := h
        refine ⟨.bool false, fin ?_, rfl, .bool _, has_bool.2 ⟨_, rfl⟩⟩
        rw [e1, e2]
        exact run_eq_nilptr hu _ x y
      · injection h with h; simp only [Prod.mk.injEq] at h; obtain ⟨rfl, rfl⟩ := h
        refine ⟨.bool true, fin ?_, rfl, .bool _, has_bool.2 ⟨_, rfl⟩⟩
        rw [e1, e2]
        exact run_ne_nilptr hu _ x y
      · cases h
    · cases h
  · cases h
theorem opBin2_ok (ht : SimT C w G σ.tm a) (hpc : condB C.ρ pc = true) (h : opBin2 P σ pc o = some (s, is)) (hit : ∀ it ∈ is, ItemOk C Φ Pre it) : Gives P C w G a o s := by
  unfold opBin2 at h
  split at h
  · rename_i r hr
    injection h with h; subst h
    exact opBinAdr_ok ht hpc hr
  · exact opBin_ok ht hpc h hit

end
end Go.Eng
/- The other operations that leave memory alone. -/
namespace Go.Eng
open Go Go.RowKit

section
variable {P : Program} {C : Cx} {w w0 : World} {S0 : Base} {G : Gh} {σ : St} {a : Act} {o : Oper} {pc : Cond} {s : SV} {is : List Item} {Φ : Nat → List D → D} {Pre : Nat → List D → Prop}

theorem opUn_ok (ht : SimT C w G σ.tm a) (hpc : condB C.ρ pc = true) (h : opUn P σ pc o = some (s, is)) : Gives P C w G a o s := by
  unfold opUn at h
  split at h
  · rename_i t x ho
    split at h
    · rename_i e he
      injection h with h; simp only [Prod.mk.injEq] at h; obtain ⟨rfl, rfl⟩ := h
      obtain ⟨x1, x2, x3⟩ := getD_ok ht hpc he
      obtain ⟨b, hb⟩ := has_bool.1 x3
      have e1 := (hb ▸ x2).inv_bool
      refine ⟨.bool (!b), by unfold execOp; simp only [ho, e1]; rfl, by simpa [E.lt] using x1, ?_, has_bool.2 ⟨_, rfl⟩⟩
      simp only [den, U.den, hb, D.toB]; exact .bool _
    · cases h
  · rename_i t x ho
    split at h
    · rename_i e k he
      injection h with h; simp only [Prod.mk.injEq] at h; obtain ⟨rfl, rfl⟩ := h
      obtain ⟨x1, x2, x3⟩ := getD_ok ht hpc he
      obtain ⟨b, hb, _⟩ := has_int.1 x3
      have e1 := (hb ▸ x2).inv_int
      refine ⟨.int k (k.wrap (0 - b)), by unfold execOp; simp only [ho, e1]; rfl, by simpa [E.lt] using x1, ?_, has_int.2 ⟨_, rfl, inK_wrap _ _⟩⟩
      simp only [den, U.den, hb, D.toI]; exact .int _ _
    · cases h
  · rename_i s' d x ho
    split at h
    · rename_i e k0 k1 k he hs hd
      injection h with h; simp only [Prod.mk.injEq] at h; obtain ⟨rfl, rfl⟩ := h
      obtain ⟨x1, x2, x3⟩ := getD_ok ht hpc he
      obtain ⟨b, hb, _⟩ := has_int.1 x3
      have e1 := (hb ▸ x2).inv_int
      refine ⟨.int k (k.wrap b), ?_, by simpa [E.lt] using x1, ?_, has_int.2 ⟨_, rfl, inK_wrap _ _⟩⟩
      · unfold execOp; simp only [ho, e1, convert]
        simp [run_underlying hs, run_underlying hd, Conv.intToInt]
      · simp only [den, U.den, hb, D.toI]; exact .int _ _
    · cases h
  · cases h

theorem opExtract_ok (ht : SimT C w G σ.tm a) (hpc : condB C.ρ pc = true) (h : opExtract P σ pc o = some (s, is)) : Gives P C w G a o s := by
  unfold opExtract at h
  split at h
  · rename_i x j ho
    split at h
    · rename_i l hl
      obtain ⟨vs, hv, hlen, hc⟩ := getV_ok ht hpc hl
      split at h
      · rename_i cs hj
        injection h with h; simp only [Prod.mk.injEq] at h; obtain ⟨rfl, rfl⟩ := h
        have hjl : j < vs.length := by rw [hlen]; exact (List.getElem?_eq_some_iff.1 hj).1
        have hvj : vs[j]? = some vs[j] := List.getElem?_eq_getElem hjl
        refine ⟨vs[j], ?_, ?_⟩
        · unfold execOp; simp only [ho, hv, Instr.extract]
          simp [hjl]
        · have := hc j _ _ hj hvj
          simpa [RComp, RSV] using this
      · rename_i c hj
        injection h with h; simp only [Prod.mk.injEq] at h; obtain ⟨rfl, rfl⟩ := h
        have hjl : j < vs.length := by rw [hlen]; exact (List.getElem?_eq_some_iff.1 hj).1
        have hvj : vs[j]? = some vs[j] := List.getElem?_eq_getElem hjl
        refine ⟨vs[j], ?_, ?_⟩
        · unfold execOp; simp only [ho, hv, Instr.extract]
          simp [hjl]
        · have := hc j _ _ hj hvj
          simpa [RComp, RSV] using this
      · cases h
    · cases h
  · cases h

theorem fieldOf_ok {t : TypeId} {f : Nat} {fl : Field} {n : Nat} (h : fieldOf P t f = some (fl, n)) : ∃ fs, P.underlying t = some (.struct fs) ∧ fs[f]? = some fl ∧ sizeT P fl.type = some n := by
  unfold fieldOf at h
  split at h
  · rename_i fs hu
    split at h
    · rename_i fl' hf
      simp only [Option.map_eq_some_iff, Prod.mk.injEq] at h
      obtain ⟨n', h1, rfl, rfl⟩ := h
      exact ⟨fs, hu, hf, h1⟩
    · cases h
  · cases h

theorem run_fieldAt {t : TypeId} {f : Nat} {fl : Field} {n : Nat} (h : fieldOf P t f = some (fl, n + 1)) (b o : Nat) :
    (Instr.fieldAt t (.pointer (some ⟨b, o, none⟩)) f).run P w = .ok (.pointer (some ⟨b, o + fl.offset, none⟩)) w := by
  obtain ⟨fs, hu, hf, hs⟩ := fieldOf_ok h
  have h1 := run_sizeT (P := P) (w := w) hs
  simp [Instr.fieldAt, run_underlying hu, hf, Instr.sureAddr, fieldPlace, h1, addr_add]

theorem opFieldAddr_ok (ht : SimT C w G σ.tm a) (hpc : condB C.ρ pc = true) (h : opFieldAddr P σ pc o = some (s, is)) : Gives P C w G a o s := by
  unfold opFieldAddr at h
  split at h
  · rename_i t x f ho
    have fin : ∀ {v u : Value}, a.eval x = v → (Instr.fieldAt t v f).run P w = .ok u w → (execOp a.eval o).run P w = .ok (.value u) w := by
      intro v u hv hr
      unfold execOp; simp only [ho, hv]
      rw [Sem.run_bind, hr]; rfl
    split at h
    · rename_i fl n id off hf hx
      injection h with h; simp only [Prod.mk.injEq] at h; obtain ⟨rfl, rfl⟩ := h
      obtain ⟨h1, h2⟩ := getV_ok ht hpc hx
      exact ⟨_, fin h2 (run_fieldAt hf _ _), h1, rfl⟩
    · rename_i fl n l i u off hf hx
      injection h with h; simp only [Prod.mk.injEq] at h; obtain ⟨rfl, rfl⟩ := h
      obtain ⟨h1, h2, b, o', u', hv, hh, hc⟩ := getV_ok ht hpc hx
      exact ⟨_, fin hv (run_fieldAt hf _ _), h1, h2, b, o', u', by rw [Nat.add_assoc], hh, hc⟩
    · rename_i fl n e fs off hf hx
      injection h with h; simp only [Prod.mk.injEq] at h; obtain ⟨rfl, rfl⟩ := h
      obtain ⟨h1, b, l, u', hd, hl, hv, hc⟩ := getV_ok ht hpc hx
      exact ⟨_, fin hv (run_fieldAt hf _ _), h1, b, l, u', hd, hl, rfl, hc⟩
    · rename_i fl n e fs hf hx
      injection h with h; simp only [Prod.mk.injEq] at h; obtain ⟨rfl, rfl⟩ := h
      obtain ⟨h1, h2, h3⟩ := getV_ok ht hpc hx
      obtain ⟨l, hl, hh⟩ := has_box.1 h3
      obtain ⟨b, cs, hv, hlen, hS, hc, hr⟩ := (hl ▸ h2).inv_ptr
      refine ⟨_, fin hv (run_fieldAt hf _ _), h1, b, l, fun j => cs.getD j undef, hl, hh, by rw [Nat.zero_add], fun j c hj => ?_⟩
      have hjl : j < cs.length := by rw [hlen]; exact (List.getElem?_eq_some_iff.1 hj).1
      have e1 : cs[j]? = some (cs.getD j undef) := by simp [List.getD, hjl]
      exact ⟨hS j (by omega), hc j _ e1, hr j _ c e1 hj⟩
    · rename_i fl n g i u off hf hx
      injection h with h; simp only [Prod.mk.injEq] at h; obtain ⟨rfl, rfl⟩ := h
      obtain ⟨h1, h2, b, cap, m, h3, h4, h5, hv⟩ := getV_ok ht hpc hx
      exact ⟨_, fin hv (run_fieldAt hf _ _), h1, h2, b, cap, m, h3, h4, h5, by rw [Nat.add_assoc]⟩
    · cases h
  · cases h

theorem RSCs.cut {l : List SC} {vs : List Value} (h : RSCs C w G l vs) (off n : Nat) : RSCs C w G ((l.drop off).take n) ((vs.drop off).take n) := by
  refine ⟨by simp [h.1], fun i c v hc hv => ?_⟩
  simp only [List.getElem?_take, List.getElem?_drop] at hv hc
  split at hv
  · rename_i hi; rw [if_pos hi] at hc; exact h.2 _ c v hc hv
  · cases hv

theorem aggCells_ok {s : SV} {l : List SC} {v : Value} (h : aggCells s = some l) (hr : RSV C w G s v) : ∃ vs : List Value, v = .agg vs.toArray ∧ RSCs C w G l vs := by
  unfold aggCells at h
  split at h
  · injection h with h; subst h; exact hr
  · rename_i e fs
    injection h with h; subst h
    obtain ⟨h1, h2, h3⟩ := hr
    obtain ⟨l, hl, hh, cs, rfl, hlen, hc⟩ := h2.aggOf h3
    refine ⟨cs, rfl, by rw [idxCells_len, hlen, hasL_len hh], fun i c v hi hv => ?_⟩
    rw [idxCells_get] at hi
    simp only [Option.map_eq_some_iff] at hi
    obtain ⟨t, ht, rfl⟩ := hi
    obtain ⟨x, hx, hhx⟩ := hasL_get hh i t ht
    have hd : den C.ρ (.un (.cell (0 + i)) e) = x := by simp only [den, U.den, hl, D.toL, Nat.zero_add]; exact toL_getD hx
    exact ⟨by simpa [E.lt] using h1, by rw [hd]; exact hc i v x hv hx, by rw [hd]; exact hhx⟩
  · cases h

theorem opField_ok (ht : SimT C w G σ.tm a) (hpc : condB C.ρ pc = true) (h : opField P σ pc o = some (s, is)) : Gives P C w G a o s := by
  unfold opField at h
  split at h
  · rename_i t x f ho
    split at h
    · rename_i fl n cs hf hx
      cases hg : getV P σ pc x t with
      | none => simp [hg] at hx
      | some sv =>
        simp only [hg, Option.bind_some] at hx
        split at h
        · rename_i hcond
          obtain ⟨hsome, hle⟩ := hcond
          obtain ⟨dsc, hq⟩ := Option.isSome_iff_exists.1 hsome
          obtain ⟨vs, hv', hr⟩ := aggCells_ok hx (getV_ok ht hpc hg)
          obtain ⟨fs, hu, hff, hs⟩ := fieldOf_ok hf
          have fin : ∀ {u : Value}, (part fl.type vs.toArray fl.offset).run P w = .ok u w → (execOp a.eval o).run P w = .ok (.value u) w := by
            intro u hp
            unfold execOp; simp only [ho, hv', Instr.field, asAgg]
            simp [run_underlying hu, hff, hp]
          have hlen : fl.offset + n ≤ vs.length := by rw [hr.1]; exact hle
          split at h
          · rename_i ha
            injection h with h; simp only [Prod.mk.injEq] at h; obtain ⟨rfl, rfl⟩ := h
            have hp := run_part (w := w) hq hs vs hlen (fun h => by rw [ha] at h; cases h)
            simp only [valOf, ha, if_true] at hp
            exact ⟨_, fin hp, _, rfl, hr.cut _ _⟩
          · rename_i ha
            split at h
            · rename_i hn
              split at h
              · rename_i c hc
                injection h with h; simp only [Prod.mk.injEq] at h; obtain ⟨rfl, rfl⟩ := h
                have hp := run_part (w := w) hq hs vs hlen (fun _ => hn)
                have hlt : fl.offset < vs.length := by omega
                have e2 : ((vs.drop fl.offset).take n).getD 0 undef = vs[fl.offset] := by
                  simp [List.getD, List.getElem?_drop, hn, hlt]
                simp only [valOf, ha, Bool.false_eq_true, if_false, e2] at hp
                exact ⟨_, fin hp, hr.2 _ c _ hc (List.getElem?_eq_getElem hlt)⟩
              · cases h
            · cases h
        · cases h
    · cases h
  · cases h

theorem opIndexSl_ok (ht : SimT C w G σ.tm a) (hpc : condB C.ρ pc = true) (h : opIndexSl P σ pc o = some (s, is)) (hit : ∀ it ∈ is, ItemOk C Φ Pre it) : Gives P C w G a o s := by
  unfold opIndexSl at h
  split at h
  · rename_i t x i ho
    split at h
    · rename_i el e u ie k hu hx hi
      split at h
      · rename_i hsz
        obtain ⟨hsz, hpos⟩ := hsz
        injection h with h; simp only [Prod.mk.injEq] at h; obtain ⟨rfl, rfl⟩ := h
        obtain ⟨x1, x2, x3⟩ := getD_ok ht hpc hx
        obtain ⟨y1, y2, y3⟩ := getD_ok ht hpc hi
        obtain ⟨l, hl, hlm, hall⟩ := has_list.1 x3
        obtain ⟨n, hn, _⟩ := has_int.1 y3
        have hob : ItemOk C Φ Pre (.obl pc (.bin .and (.bin .le (.kint k 0) ie) (.bin .lt ie (.un .len e)))) := hit _ (by simp)
        have hb := hob.2 hpc
        simp only [den, B.den, U.den, hl, hn, D.toI, D.toB, D.toL, Bool.and_eq_true, decide_eq_true_eq] at hb
        obtain ⟨hb0, hb1⟩ := hb
        have hlt : n.toNat < l.length := by omega
        have hli : l[n.toNat]? = some l[n.toNat] := List.getElem?_eq_getElem hlt
        have hden : den C.ρ (.bin .idx e ie) = l[n.toNat] := by
          simp only [den, B.den, hl, hn, D.toI, D.toL]; exact toL_getD hli
        have hhas := hall _ (List.mem_of_getElem? hli)
        have hwd := (has_cells hhas).1
        obtain ⟨b, off, cap, uu, hv, hc⟩ := (hl ▸ x2).inv_elem hli
        have hvi : a.eval i = .int k n := (hn ▸ y2).inv_int
        refine ⟨.pointer (some ⟨b, off + n.toNat * u.cells.length, none⟩), ?_, x1, y1, b, off + n.toNat * u.cells.length, uu, by simp, by rw [hden]; exact hhas, ?_⟩
        · have h1 := run_sizeT (P := P) (w := w) hsz
          unfold execOp; simp only [ho, hv, hvi, Instr.indexAt, asIntOf]
          simp [run_underlying hu, hb0, hb1, h1, addr_add]
        · intro j c hj
          rw [hden] at hj
          rw [← hwd]
          exact hc j c hj
      · cases h
    · cases h
  · cases h

theorem opIndexArr_ok (ht : SimT C w G σ.tm a) (hpc : condB C.ρ pc = true) (h : opIndexArr P σ pc o = some (s, is)) : Gives P C w G a o s := by
  unfold opIndexArr at h
  split at h
  · rename_i t x k n ho
    split at h
    · rename_i len el id off hu hx
      split at h
      · rename_i sz hsz
        split at h
        · rename_i hn
          obtain ⟨hn0, hn1⟩ := hn
          injection h with h; simp only [Prod.mk.injEq] at h; obtain ⟨rfl, rfl⟩ := h
          obtain ⟨h1, h2⟩ := getV_ok ht hpc hx
          refine ⟨.pointer (some ⟨G.β id, off + n.toNat * sz, none⟩), ?_, h1, rfl⟩
          have h3 := run_sizeT (P := P) (w := w) hsz
          have hv : a.eval (.const (.int k n)) = .int k n := rfl
          unfold execOp; simp only [ho, h2, hv, Instr.indexAt, asIntOf]
          simp [run_underlying hu, hn0, hn1, h3, addr_add, Instr.sureAddr]
        · cases h
      · cases h
    · cases h
  · cases h
theorem opIndexAddr_ok (ht : SimT C w G σ.tm a) (hpc : condB C.ρ pc = true) (h : opIndexAddr P σ pc o = some (s, is)) (hit : ∀ it ∈ is, ItemOk C Φ Pre it) : Gives P C w G a o s := by
  unfold opIndexAddr at h
  split at h
  · rename_i y hy
    injection h with h; subst h
    exact opIndexArr_ok ht hpc hy
  · exact opIndexSl_ok ht hpc h hit

theorem opNil_ok (ht : SimT C w G σ.tm a) (hpc : condB C.ρ pc = true) (h : opNil P σ pc o = some (s, is)) (hit : ∀ it ∈ is, ItemOk C Φ Pre it) : Gives P C w G a o s := by
  unfold opNil at h
  split at h
  · rename_i x ho
    have fin : ∀ {ad : Addr}, a.eval x = .pointer (some ad) → (execOp a.eval o).run P w = .ok (.value (.pointer (some ad))) w := by
      intro ad hv
      unfold execOp; simp only [ho, hv]; rfl
    split at h
    · rename_i id off hx
      injection h with h; simp only [Prod.mk.injEq] at h; obtain ⟨rfl, rfl⟩ := h
      have hr := getV_ok ht hpc hx
      exact ⟨_, fin hr.2, hr.1, rfl⟩
    · rename_i e fs off hx
      injection h with h; simp only [Prod.mk.injEq] at h; obtain ⟨rfl, rfl⟩ := h
      have hr := getV_ok ht hpc hx
      obtain ⟨h1, b, l, u', hd, hl, hv, hc⟩ := hr
      exact ⟨_, fin hv, h1, b, l, u', hd, hl, rfl, hc⟩
    · rename_i l i u off hx
      injection h with h; simp only [Prod.mk.injEq] at h; obtain ⟨rfl, rfl⟩ := h
      have hr := getV_ok ht hpc hx
      obtain ⟨h1, h2, b, o', u', hv, hh, hc⟩ := hr
      exact ⟨_, fin hv, h1, h2, b, o', u', rfl, hh, hc⟩
    · rename_i g i u off hx
      injection h with h; simp only [Prod.mk.injEq] at h; obtain ⟨rfl, rfl⟩ := h
      have hr := getV_ok ht hpc hx
      obtain ⟨h1, h2, b, cap, m, h3, h4, h5, hv⟩ := hr
      exact ⟨_, fin hv, h1, h2, b, cap, m, h3, h4, h5, rfl⟩
    · rename_i e fs hx
      injection h with h; simp only [Prod.mk.injEq] at h; obtain ⟨rfl, rfl⟩ := h
      have hr := getV_ok ht hpc hx
      obtain ⟨h1, h2, h3⟩ := hr
      obtain ⟨l, hl, hh⟩ := has_box.1 h3
      obtain ⟨b, cs, hv, _⟩ := (hl ▸ h2).inv_ptr
      exact ⟨_, fin hv, h1, by rw [← hv]; exact h2, h3⟩
    · rename_i e fs hx
      injection h with h; simp only [Prod.mk.injEq] at h; obtain ⟨rfl, rfl⟩ := h
      have hr := getV_ok ht hpc hx
      obtain ⟨h1, h2, h3⟩ := hr
      have hob : ItemOk C Φ Pre (.obl pc (.un .not (.un .isnil e))) := hit _ (by simp)
      have hb := hob.2 hpc
      rcases has_ptr.1 h3 with hn | ⟨l, hl, hh⟩
      · simp [den, U.den, hn, D.isNilp, D.toB] at hb
      · obtain ⟨b, cs, hv, _⟩ := (hl ▸ h2).inv_ptr
        exact ⟨_, fin hv, h1, by rw [← hv]; exact h2, has_box.2 ⟨l, hl, hh⟩⟩
    · cases h
  · cases h

/-- A load of cells that stand at an address. -/
theorem run_load_cells {t : TypeId} {n : Nat} (hs : sizeT P t = some n) (ha : aggT P t = true) {b off : Nat} {vs : List Value} (hl : vs.length = n)
    (hc : ∀ (j : Nat) v, vs[j]? = some v → w.cell? ⟨b, off + j, none⟩ = some v) : (Instr.loadAt t (.pointer (some ⟨b, off, none⟩))).run P w = .ok (.agg vs.toArray) w := by
  have hu : ∃ d, P.underlying t = some d := by
    unfold aggT at ha
    cases hq : P.underlying t with
    | none => rw [hq] at ha; cases ha
    | some d => exact ⟨d, rfl⟩
  obtain ⟨d, hu⟩ := hu
  have h1 := run_isAgg (P := P) (w := w) hu
  have h2 := run_loadCells_list (P := P) w ⟨b, off, none⟩ vs (fun j v hv => by rw [addr_add]; exact hc j v hv)
  rw [ha] at h1
  simp [Instr.loadAt, Instr.sureAddr, loadVar, h1, run_sizeT hs, ← hl, h2]

theorem run_load_one {t : TypeId} (ha : aggT P t = false) (hu : (P.underlying t).isSome = true) {ad : Addr} {v : Value} (hc : w.cell? ad = some v) : (Instr.loadAt t (.pointer (some ad))).run P w = .ok v w := by
  obtain ⟨d, hu⟩ := Option.isSome_iff_exists.1 hu
  have h1 := run_isAgg (P := P) (w := w) hu
  rw [ha] at h1
  simp [Instr.loadAt, Instr.sureAddr, loadVar, h1, hc]

theorem elemLoad_ok {T : TypeId} {e : E} {u : Ty} {off : Nat} (h : elemLoad P T e u off = some (s, is)) (hu : (P.underlying T).isSome = true) {b o' : Nat} {uu : Nat → Value}
    (he : e.lt C.N = true) (hh : Has u (den C.ρ e)) (hc : ∀ (j : Nat) c, (den C.ρ e).cells[j]? = some c → w.cell? ⟨b, o' + j, none⟩ = some (uu j) ∧ Rep w G.S (uu j) c) :
    ∃ v, (Instr.loadAt T (.pointer (some ⟨b, o' + off, none⟩))).run P w = .ok v w ∧ RSV C w G s v := by
  have scal : ∀ {t : Ty} {e' : E} {c : D}, aggT P T = false → e'.lt C.N = true → den C.ρ e' = c → (den C.ρ e).cells[off]? = some c → Has t c → s = .one (.dat e' t) → ∃ v, (Instr.loadAt T (.pointer (some ⟨b, o' + off, none⟩))).run P w = .ok v w ∧ RSV C w G s v := by
    intro t e' c ha hlt hd hj hhc hs
    subst hs
    obtain ⟨h2, h3⟩ := hc off c hj
    exact ⟨_, run_load_one ha hu h2, hlt, by rw [hd]; exact h3, by rw [hd]; exact hhc⟩
  unfold elemLoad at h
  split at h
  · rename_i fs n hs
    obtain ⟨l, hl, hhl⟩ := has_agg.1 hh
    have hlen := hasL_len hhl
    rw [hl] at hc scal
    simp only [D.cells] at hc scal
    split at h
    · rename_i ha
      split at h
      · rename_i hcnd
        obtain ⟨rfl, hn⟩ := hcnd
        injection h with h; simp only [Prod.mk.injEq] at h; obtain ⟨rfl, rfl⟩ := h
        have hvs : ((List.range n).map uu).length = n := by simp
        refine ⟨_, run_load_cells hs ha (vs := (List.range n).map uu) hvs (fun j v hv => ?_), he, ?_, hh⟩
        · have hj : j < n := by have := (List.getElem?_eq_some_iff.1 hv).1; simpa using this
          simp only [List.getElem?_map, List.getElem?_range hj, Option.map_some, Option.some.injEq] at hv
          subst hv
          have hjl : l[j]? = some l[j] := List.getElem?_eq_getElem (by omega)
          exact (hc j _ hjl).1
        · rw [hl]
          refine .agg _ l (by simp [hlen, hn]) fun i v d hi hd => ?_
          have hj : i < n := by have := (List.getElem?_eq_some_iff.1 hi).1; simpa using this
          simp only [List.getElem?_map, List.getElem?_range hj, Option.map_some, Option.some.injEq] at hi
          subst hi
          exact (hc i d hd).2
      · split at h
        · rename_i hle
          injection h with h; simp only [Prod.mk.injEq] at h; obtain ⟨rfl, rfl⟩ := h
          have hvs : ((List.range n).map fun j => uu (off + j)).length = n := by simp
          have hd : den C.ρ (.un (.part off n) e) = .agg ((l.drop off).take n) := by simp only [den, U.den, hl, D.toL]
          refine ⟨_, run_load_cells hs ha (vs := (List.range n).map fun j => uu (off + j)) hvs (fun j v hv => ?_), by simpa [E.lt] using he, ?_, ?_⟩
          · have hj : j < n := by have := (List.getElem?_eq_some_iff.1 hv).1; simpa using this
            simp only [List.getElem?_map, List.getElem?_range hj, Option.map_some, Option.some.injEq] at hv
            subst hv
            have hjl : l[off + j]? = some l[off + j] := List.getElem?_eq_getElem (by omega)
            rw [Nat.add_assoc]
            exact (hc _ _ hjl).1
          · rw [hd]
            refine .agg _ _ (by simp; omega) fun i v d hi hd => ?_
            have hj : i < n := by have := (List.getElem?_eq_some_iff.1 hi).1; simpa using this
            simp only [List.getElem?_map, List.getElem?_range hj, Option.map_some, Option.some.injEq] at hi
            subst hi
            simp only [List.getElem?_take, List.getElem?_drop, if_pos hj] at hd
            exact (hc _ d hd).2
          · rw [hd]
            refine has_agg.2 ⟨_, rfl, hasL_mk (by simp; omega) fun j u x hj hx => ?_⟩
            simp only [List.getElem?_take, List.getElem?_drop] at hj hx
            split at hj
            · rename_i hjn
              rw [if_pos hjn] at hx
              obtain ⟨y, hy, hhy⟩ := hasL_get hhl _ u hj
              rw [hx] at hy; injection hy with hy; subst hy; exact hhy
            · cases hj
        · cases h
    · rename_i ha
      split at h
      · rename_i t htt
        split at h
        · injection h with h; simp only [Prod.mk.injEq] at h; obtain ⟨rfl, rfl⟩ := h
          obtain ⟨x, hx, hhx⟩ := hasL_get hhl off t htt
          have hd : den C.ρ (.un (.cell off) e) = x := by simp only [den, U.den, hl, D.toL]; exact toL_getD hx
          exact scal (by simpa using ha) (by simpa [E.lt] using he) hd hx hhx rfl
        · cases h
      · cases h
  · rename_i u _ _ _
    split at h
    · rename_i hcnd
      obtain ⟨ha, rfl, hsc⟩ := hcnd
      injection h with h; simp only [Prod.mk.injEq] at h; obtain ⟨rfl, rfl⟩ := h
      obtain ⟨k1, k2⟩ := has_cells hh
      have hu1 : u.cells = [u] := by cases u <;> first | rfl | cases hsc
      rw [hu1] at k1 k2
      obtain ⟨x, hx, hhx⟩ := k2 0 u rfl
      have hxd : x = den C.ρ e := by
        generalize den C.ρ e = d at *
        cases u <;> (first | cases hsc | skip) <;> simp only [has_int, has_bool, has_str, has_list, has_box, has_ptr, has_fn] at hh
        case ptr => rcases hh with rfl | ⟨n, rfl, _⟩ <;> (simp [D.cells] at hx; exact hx.symm)
        all_goals first
          | (obtain ⟨n, rfl, _⟩ := hh; simp [D.cells] at hx; exact hx.symm)
          | (obtain ⟨n, rfl⟩ := hh; simp [D.cells] at hx; exact hx.symm)
      exact scal ha he hxd.symm hx (by rw [hxd]; exact hh) rfl
    · cases h

theorem opLoad_ok {rd : List Nat} (hm : SimM w0 S0 C G σ w) (ht : SimT C w G σ.tm a) (hpc : condB C.ρ pc = true) (h : opLoad P σ pc o = some ((s, is), rd)) : Gives P C w G a o s := by
  unfold opLoad at h
  split at h
  · rename_i t x ho
    have fin : ∀ {v u : Value}, a.eval x = v → (Instr.loadAt t v).run P w = .ok u w → (execOp a.eval o).run P w = .ok (.value u) w := by
      intro v u hv hr
      unfold execOp; simp only [ho, hv]
      rw [Sem.run_bind, hr]; rfl
    split at h
    · cases h
    · rename_i hsome
      have hsome : (P.underlying t).isSome = true := by cases hq : P.underlying t <;> simp [hq] at hsome ⊢
      split at h
      · rename_i id off hx
        have hv := (getV_ok ht hpc hx).2
        split at h
        · rename_i ro cs hid
          obtain ⟨_, _, hblk, _⟩ := hm.box id ro cs hid
          split at h
          · cases h
          rename_i hnm
          obtain ⟨vs, T, hg, hr⟩ := hblk.cells (by simpa using hnm)
          have hcell : ∀ j, w.cell? ⟨G.β id, j, none⟩ = vs[j]? := by intro j; rw [cell_of_row w _ j _ T _ hg]; simp
          split at h
          · rename_i ha
            split at h
            · rename_i n hs
              split at h
              · rename_i hle
                injection h with h; simp only [Prod.mk.injEq] at h; obtain ⟨⟨rfl, rfl⟩, rfl⟩ := h
                have hlen : ((vs.drop off).take n).length = n := by have := hr.1; simp; omega
                refine ⟨_, fin hv (run_load_cells hs ha hlen (fun j v hj => ?_)), _, rfl, hr.cut off n⟩
                rw [hcell]
                simp only [List.getElem?_take, List.getElem?_drop] at hj
                split at hj
                · exact hj
                · cases hj
              · cases h
            · cases h
          · rename_i ha
            split at h
            · rename_i c hc
              injection h with h; simp only [Prod.mk.injEq] at h; obtain ⟨⟨rfl, rfl⟩, rfl⟩ := h
              have hlt : off < vs.length := by rw [hr.1]; exact (List.getElem?_eq_some_iff.1 hc).1
              have hvo : vs[off]? = some vs[off] := List.getElem?_eq_getElem hlt
              exact ⟨_, fin hv (run_load_one (by simpa using ha) hsome ((hcell off).trans hvo)), hr.2 off c _ hc hvo⟩
            · cases h
        · cases h
      · rename_i l i u off hx
        simp only [Option.map_eq_some_iff, Prod.mk.injEq] at h
        obtain ⟨⟨s', is'⟩, h1, ⟨rfl, rfl⟩, rfl⟩ := h
        obtain ⟨h2, h3, b, o', uu, hv, hh, hc⟩ := getV_ok ht hpc hx
        obtain ⟨v, k1, k2⟩ := elemLoad_ok (P := P) (C := C) (w := w) (G := G) h1 hsome (by simp [E.lt, h2, h3]) hh (fun j c hj => (hc j c hj).2)
        exact ⟨v, fin hv k1, k2⟩
      · rename_i e fs off hx
        simp only [Option.map_eq_some_iff, Prod.mk.injEq] at h
        obtain ⟨⟨s', is'⟩, h1, ⟨rfl, rfl⟩, rfl⟩ := h
        obtain ⟨h2, b, l, uu, hd, hh, hv, hc⟩ := getV_ok ht hpc hx
        have hd' : den C.ρ (.un .agg e) = .agg l := by simp only [den, U.den, hd, D.toL]
        obtain ⟨v, k1, k2⟩ := elemLoad_ok (P := P) (C := C) (w := w) (G := G) (b := b) (o' := 0) (uu := uu) h1 hsome (by simpa [E.lt] using h2) (by rw [hd']; exact has_agg.2 ⟨l, rfl, hh⟩)
          (by rw [hd']; simp only [D.cells]; intro j c hj; rw [Nat.zero_add]; exact (hc j c hj).2)
        rw [Nat.zero_add] at k1
        exact ⟨v, fin hv k1, k2⟩
      · rename_i e fs hx
        simp only [Option.map_eq_some_iff, Prod.mk.injEq] at h
        obtain ⟨⟨s', is'⟩, h1, ⟨rfl, rfl⟩, rfl⟩ := h
        obtain ⟨h2, hrep, hhas⟩ := getV_ok ht hpc hx
        obtain ⟨l, hd, hh⟩ := has_box.1 hhas
        obtain ⟨b, cs, hv, hlen, hS, hc, hr⟩ := (hd ▸ hrep).inv_ptr
        have hd' : den C.ρ (.un .agg e) = .agg l := by simp only [den, U.den, hd, D.toL]
        obtain ⟨v, k1, k2⟩ := elemLoad_ok (P := P) (C := C) (w := w) (G := G) (b := b) (o' := 0) (uu := fun j => cs.getD j undef) h1 hsome (by simpa [E.lt] using h2) (by rw [hd']; exact has_agg.2 ⟨l, rfl, hh⟩)
          (by
            rw [hd']; simp only [D.cells]; intro j c hj; rw [Nat.zero_add]
            have hjl : j < cs.length := by rw [hlen]; exact (List.getElem?_eq_some_iff.1 hj).1
            have e1 : cs[j]? = some (cs.getD j undef) := by simp [List.getD, hjl]
            exact ⟨hc j _ e1, hr j _ c e1 hj⟩)
        exact ⟨v, fin hv k1, k2⟩
      · cases h
  · cases h

end
end Go.Eng
/- Lengths, parts of slices, struct and slice literals. -/
namespace Go.Eng
open Go Go.RowKit

def zeroSCs : List Ty → List Value → Option (List SC)
  | [], [] => some []
  | t :: ts, v :: vs => match constT t v, zeroSCs ts vs with
    | some c, some cs => some (c :: cs)
    | _, _ => none
  | _, _ => none

def fillSC (place : Nat → Option (Nat × Nat)) : List SC → List (Nat × List SC) → Option (List SC)
  | cells, [] => some cells
  | cells, (i, cs) :: rest =>
    match place i with
    | some (off, size) => if cs.length = size ∧ off + cs.length ≤ cells.length then fillSC place (cells.take off ++ cs ++ cells.drop (off + cs.length)) rest else none
    | none => none

def partsSC (P : Program) (σ : St) (pc : Cond) (hint : Nat → TypeId) : List (Nat × Operand) → Option (List (Nat × List SC))
  | [] => some []
  | (i, x) :: rest =>
    match (getV P σ pc x (hint i)).bind asCells, partsSC P σ pc hint rest with
    | some cs, some r => if cs.all SC.scalar then some ((i, cs) :: r) else none
    | _, _ => none

def opBuild (P : Program) (σ : St) (pc : Cond) (o : Oper) : Option Pl :=
  match o.op with
  | .build t parts =>
    match P.underlying t, P.info? t, flat P fuelF t with
    | some (.struct fs), some it, some ts =>
      match it.zero, fs.toList.mapM (fun f => (P.info? f.type).map fun i => (f.offset, i.size)), partsSC P σ pc (fun i => ((fs[i]?).map (·.type)).getD 0) parts.toList with
      | some z, some places, some ps =>
        match zeroSCs ts z.cells.toList with
        | some zs => (fillSC (places.toArray[·]?) zs ps).map fun cs => (.agg cs, [])
        | none => none
      | _, _, _ => none
    | _, _, _ => none
  | _ => none

/-- Elements out of their cells. -/
def elemsE (agg : Bool) (size : Nat) (es : List E) : Nat → List E
  | 0 => []
  | n + 1 => (if agg then .un .agg (.ofL (es.take size)) else es.headD .nil) :: elemsE agg size (es.drop size) n

/-- A slice literal: its elements, as one expression; their type; the element type's number. -/
def opLit (P : Program) (σ : St) (pc : Cond) (o : Oper) : Option (E × TypeId × Ty × Nat) :=
  match o.op with
  | .buildSlice t len parts =>
    match P.underlying t with
    | some (.slice el) =>
      match P.info? el, tyV P el, flat P fuelF el, partsSC P σ pc (fun _ => el) parts.toList with
      | some ie, some u, some ts, some ps =>
        match ie.zero.bind fun z => zeroSCs ts z.cells.toList with
        | some zs =>
          if zs.length = ie.size ∧ u.cells.length = ie.size ∧ 0 < ie.size ∧ len * ie.size ≤ 16777216 ∧ len * u.bytes ≤ 140737488355328 then
            match fillSC (fun i => some (i * ie.size, ie.size)) ((List.range (len * ie.size)).map fun j => zs.getD (j % zs.length) (.nils .nil)) ps with
            | some cs =>
              match asDatas cs with
              | some (es, us) =>
                if us = (List.replicate len u.cells).flatten ∧ (aggT P el = true ∨ u.scalar = true) then
                  match aggT P el, u with
                  | true, .agg fs => some (.ofL (elemsE true ie.size es len), el, .agg (.ofL fs.toL), len)
                  | false, u => if ie.size = 1 then some (.ofL (elemsE false 1 es len), el, u, len) else none
                  | _, _ => none
                else none
              | none => none
            | none => none
          else none
        | none => none
      | _, _, _, _ => none
    | _ => none
  | _ => none

section
variable {P : Program} {C : Cx} {w w0 : World} {S0 : Base} {G : Gh} {σ : St} {a : Act} {o : Oper} {pc : Cond} {s : SV} {is : List Item} {Φ : Nat → List D → D} {Pre : Nat → List D → Prop}

theorem opLen_ok (ht : SimT C w G σ.tm a) (hpc : condB C.ρ pc = true) (h : opLen P σ pc o = some (s, is)) : Gives P C w G a o s := by
  unfold opLen at h
  split at h
  · rename_i args argTypes ho
    split at h
    · rename_i x t hargs hat
      split at h
      · rename_i el e u hu hx
        injection h with h; simp only [Prod.mk.injEq] at h; obtain ⟨rfl, rfl⟩ := h
        obtain ⟨x1, x2, x3⟩ := getD_ok ht hpc hx
        obtain ⟨l, hl, ⟨hlm, _⟩, _⟩ := has_list.1 x3
        obtain ⟨ad, cap, hv⟩ := (hl ▸ x2).inv_list
        have hargs' : args = #[x] := by apply Array.ext'; simpa using hargs
        refine ⟨.int .i64 l.length, ?_, by simpa [E.lt] using x1, ?_, ?_⟩
        · unfold execOp; simp only [ho, resolve, invoke, builtin, hargs']
          simp [Builtin.len_, hat, hv, run_underlying hu, goInt]
        · simp only [den, U.den, hl, D.toL]; exact .int _ _
        · simp only [den, U.den, hl, D.toL]
          refine has_int.2 ⟨_, rfl, ?_, ?_⟩
          · show IntKind.i64.min ≤ _; simp [IntKind.min, IntKind.signed, IntKind.bits]; try omega
          · show _ ≤ IntKind.i64.max; simp [IntKind.max, IntKind.signed, IntKind.bits]; simp only [maxLen] at hlm; omega
      · cases h
    · cases h
  · rename_i args _ ho
    split at h
    · rename_i x y hargs
      split at h
      · rename_i ex k ey k' hx hy
        split at h
        · rename_i hk
          subst hk
          injection h with h; simp only [Prod.mk.injEq] at h; obtain ⟨rfl, rfl⟩ := h
          obtain ⟨x1, x2, x3⟩ := getD_ok ht hpc hx
          obtain ⟨y1, y2, y3⟩ := getD_ok ht hpc hy
          obtain ⟨i, hi, hi'⟩ := has_int.1 x3
          obtain ⟨j, hj, hj'⟩ := has_int.1 y3
          have e1 := (hi ▸ x2).inv_int
          have e2 := (hj ▸ y2).inv_int
          have hargs' : args = #[x, y] := by apply Array.ext'; simpa using hargs
          refine ⟨.int k (if j < i then j else i), ?_, by simp [E.lt, x1, y1], ?_, ?_⟩
          · unfold execOp; simp only [ho, resolve, invoke, builtin, hargs']
            simp [Builtin.min_, Builtin.min2, e1, e2]
          · simp only [den, B.den, hi, hj, D.toI]; exact .int _ _
          · simp only [den, B.den, hi, hj, D.toI]
            refine has_int.2 ⟨_, rfl, ?_⟩
            split <;> assumption
        · cases h
      · cases h
    · cases h
  · rename_i args _ ho
    split at h
    · rename_i x y hargs
      split at h
      · rename_i ex k ey k' hx hy
        split at h
        · rename_i hk
          subst hk
          injection h with h; simp only [Prod.mk.injEq] at h; obtain ⟨rfl, rfl⟩ := h
          obtain ⟨x1, x2, x3⟩ := getD_ok ht hpc hx
          obtain ⟨y1, y2, y3⟩ := getD_ok ht hpc hy
          obtain ⟨i, hi, hi'⟩ := has_int.1 x3
          obtain ⟨j, hj, hj'⟩ := has_int.1 y3
          have e1 := (hi ▸ x2).inv_int
          have e2 := (hj ▸ y2).inv_int
          have hargs' : args = #[x, y] := by apply Array.ext'; simpa using hargs
          refine ⟨.int k (if j > i then j else i), ?_, by simp [E.lt, x1, y1], ?_, ?_⟩
          · unfold execOp; simp only [ho, resolve, invoke, builtin, hargs']
            simp [Builtin.max_, Builtin.max2, e1, e2]
          · simp only [den, B.den, hi, hj, D.toI]; exact .int _ _
          · simp only [den, B.den, hi, hj, D.toI]
            refine has_int.2 ⟨_, rfl, ?_⟩
            split <;> assumption
        · cases h
      · cases h
    · cases h
  · cases h

theorem zeroSCs_ok : ∀ {ts : List Ty} {vs : List Value} {cs : List SC}, zeroSCs ts vs = some cs → RSCs C w G cs vs
  | [], [], cs, h => by simp only [zeroSCs, Option.some.injEq] at h; subst h; exact ⟨rfl, by intro i c v hi; simp at hi⟩
  | t :: ts, v :: vs, cs, h => by
    simp only [zeroSCs] at h
    split at h
    · rename_i c cs' h1 h2
      injection h with h; subst h
      have ih := zeroSCs_ok h2
      refine ⟨by simp [ih.1], fun i c' v' hi hv => ?_⟩
      cases i with
      | zero => simp at hi hv; subst hi; subst hv; exact (constT_ok h1).1
      | succ i => exact ih.2 i c' v' (by simpa using hi) (by simpa using hv)
    · cases h
  | [], _ :: _, _, h => by cases h
  | _ :: _, [], _, h => by cases h

theorem foldl_set (off : Nat) : ∀ (us : List Value) (k : Nat) (vs : List Value), off + k + us.length ≤ vs.length →
    (us.zipIdx k).foldl (fun (cs : Array Value) (x : Value × Nat) => cs.setIfInBounds (off + x.2) x.1) vs.toArray = (vs.take (off + k) ++ us ++ vs.drop (off + k + us.length)).toArray
  | [], k, vs, _ => by simp
  | u :: us, k, vs, h => by
    have ih := foldl_set off us (k + 1) (vs.set (off + k) u) (by simp at h ⊢; omega)
    simp only [List.zipIdx_cons, List.foldl_cons, List.setIfInBounds_toArray, ih]
    congr 1
    have := list_seg_step vs (off + k) u us (by simp at h; omega)
    rw [show off + (k + 1) = off + k + 1 by omega]
    simpa [Nat.add_assoc] using this

theorem RSCs.splice {l cs : List SC} {vs us : List Value} (h : RSCs C w G l vs) (h' : RSCs C w G cs us) {off : Nat} (hle : off + cs.length ≤ l.length) :
    RSCs C w G (l.take off ++ cs ++ l.drop (off + cs.length)) (vs.take off ++ us ++ vs.drop (off + us.length)) := by
  have hl := h.1
  have hl' := h'.1
  refine ⟨by simp [hl, hl'], fun i c v hc hv => ?_⟩
  rw [List.getElem?_append, List.getElem?_append] at hc hv
  simp only [List.length_append, List.length_take, hl, hl', Nat.min_eq_left (show off ≤ l.length by omega)] at hc hv
  by_cases h1 : i < off + cs.length
  · rw [if_pos h1] at hc hv
    by_cases h2 : i < off
    · rw [if_pos h2] at hc hv
      simp only [List.getElem?_take, if_pos h2] at hc hv
      exact h.2 i c v hc hv
    · rw [if_neg h2] at hc hv
      exact h'.2 _ c v hc hv
  · rw [if_neg h1] at hc hv
    simp only [List.getElem?_drop] at hc hv
    exact h.2 _ c v hc hv

theorem fillSC_ok (place : Nat → Option (Nat × Nat)) : ∀ (parts : List (Nat × List SC)) (vals : List (Nat × Value)) (cells cells' : List SC) (vs : List Value), fillSC place cells parts = some cells' → RSCs C w G cells vs →
    parts.length = vals.length → (∀ (i : Nat) x y, parts[i]? = some x → vals[i]? = some y → x.1 = y.1 ∧ ∃ us : List Value, y.2.cells = us.toArray ∧ RSCs C w G x.2 us) →
    ∃ vs' : List Value, Instr.fill place vs.toArray vals = some vs'.toArray ∧ RSCs C w G cells' vs'
  | [], [], cells, cells', vs, h, hr, _, _ => by
    simp only [fillSC, Option.some.injEq] at h; subst h
    exact ⟨vs, rfl, hr⟩
  | [], _ :: _, _, _, _, _, _, hl, _ => by simp at hl
  | _ :: _, [], _, _, _, _, _, hl, _ => by simp at hl
  | (i, cs) :: parts, (j, v) :: vals, cells, cells', vs, h, hr, hl, hp => by
    obtain ⟨hij, us, hv, hus⟩ := hp 0 _ _ rfl rfl
    simp only at hij hv hus
    subst hij
    simp only [fillSC] at h
    split at h
    · rename_i off size hpl
      split at h
      · rename_i hc
        obtain ⟨hc1, hc2⟩ := hc
        obtain ⟨vs', h1, h2⟩ := fillSC_ok place parts vals _ cells' _ h (hr.splice hus hc2) (by simpa using hl) (fun k x y hx hy => hp (k + 1) x y (by simpa using hx) (by simpa using hy))
        refine ⟨vs', ?_, h2⟩
        have hlen : us.length = cs.length := hus.1
        simp only [Instr.fill, hpl, hv]
        have hf := foldl_set off us 0 vs (by rw [hr.1, hlen]; omega)
        simp only [Nat.add_zero] at hf
        have hcond : ¬ ((us.toArray.size ≠ size || decide (off + us.toArray.size > vs.toArray.size)) = true) := by
          simp [hlen, hc1, hr.1]; omega
        rw [if_neg hcond]
        have h3 : us.toArray.zipIdx.foldl (fun cs (x : Value × Nat) => cs.setIfInBounds (off + x.2) x.1) vs.toArray = (vs.take off ++ us ++ vs.drop (off + us.length)).toArray := by
          rw [← hf, show us.toArray.zipIdx = (us.zipIdx).toArray by simp]
          exact List.foldl_toArray' _ _ _ (by simp)
        exact (congrArg (fun z => Instr.fill place z vals) h3).trans h1
      · cases h
    · cases h

theorem partsSC_ok (ht : SimT C w G σ.tm a) (hpc : condB C.ρ pc = true) (hint : Nat → TypeId) : ∀ (l : List (Nat × Operand)) (ps : List (Nat × List SC)), partsSC P σ pc hint l = some ps →
    ps.length = (l.map fun (x : Nat × Operand) => (x.1, a.eval x.2)).length ∧ ∀ (i : Nat) x y, ps[i]? = some x → (l.map fun (x : Nat × Operand) => (x.1, a.eval x.2))[i]? = some y → x.1 = y.1 ∧ ∃ us : List Value, y.2.cells = us.toArray ∧ RSCs C w G x.2 us
  | [], ps, h => by simp only [partsSC, Option.some.injEq] at h; subst h; exact ⟨rfl, by intro i x y hi; simp at hi⟩
  | (i, x) :: l, ps, h => by
    simp only [partsSC] at h
    split at h
    · rename_i cs r h1 h2
      split at h
      · rename_i hsc
        injection h with h; subst h
        obtain ⟨k1, k2⟩ := partsSC_ok ht hpc hint l r h2
        refine ⟨by simp [k1], fun j y z hy hz => ?_⟩
        cases j with
        | zero =>
          simp at hy hz; subst hy; subst hz
          refine ⟨rfl, ?_⟩
          cases hg : getV P σ pc x (hint i) with
          | none => simp [hg] at h1
          | some sv =>
            simp only [hg, Option.bind_some] at h1
            exact asCells_ok h1 (getV_ok ht hpc hg) hsc
        | succ j => exact k2 j y z (by simpa using hy) (by simpa using hz)
      · cases h
    · cases h

theorem opBuild_ok (ht : SimT C w G σ.tm a) (hpc : condB C.ρ pc = true) (h : opBuild P σ pc o = some (s, is)) : Gives P C w G a o s := by
  unfold opBuild at h
  split at h
  · rename_i t parts ho
    split at h
    · rename_i fs it ts hu hi hfl
      split at h
      · rename_i z places ps hz hpl hps
        split at h
        · rename_i zs hzs
          simp only [Option.map_eq_some_iff, Prod.mk.injEq] at h
          obtain ⟨cs, hcs, rfl, _⟩ := h
          obtain ⟨k1, k2⟩ := partsSC_ok ht hpc _ _ _ hps
          have hz0 := zeroSCs_ok (C := C) (w := w) (G := G) hzs
          obtain ⟨vs, h1, h2⟩ := fillSC_ok _ _ _ _ _ _ hcs hz0 k1 k2
          refine ⟨.agg vs.toArray, ?_, vs, rfl, h2⟩
          have hb : P.built t (parts.map fun (i, x) => (i, a.eval x)).toList = some vs.toArray := by
            unfold Program.built
            simp only [hi, hu, hz, hpl]
            rw [Array.toList_map]
            simpa using h1
          unfold execOp; simp only [ho, Sem.run_bind, run_build w t _ _ hb, Result.andThen_ok]
          rfl
        · cases h
      · cases h
    · cases h
  · cases h

theorem opSlice_ok (ht : SimT C w G σ.tm a) (hpc : condB C.ρ pc = true) (h : opSlice P σ pc o = some (s, is)) (hit : ∀ it ∈ is, ItemOk C Φ Pre it) : Gives P C w G a o s := by
  unfold opSlice at h
  split at h
  · rename_i t x lo hi ho
    split at h
    · rename_i el e u hu hx
      simp only at h
      split at h
      · rename_i l k hh k' hlo hhi
        split at h
        · rename_i hsz
          obtain ⟨hsz, hpos⟩ := hsz
          injection h with h; simp only [Prod.mk.injEq] at h; obtain ⟨rfl, rfl⟩ := h
          obtain ⟨x1, x2, x3⟩ := getD_ok ht hpc hx
          obtain ⟨ds, hl, hlm, hall⟩ := has_list.1 x3
          have hob : ItemOk C Φ Pre (.obl pc (.bin .and (.bin .le (.kint k 0) l) (.bin .and (.bin .le l hh) (.bin .le hh (.un .len e))))) := hit _ (by simp)
          have hb := hob.2 hpc
          -- the two bounds as numbers
          have kl : ∃ n : Int, den C.ρ l = .int k n ∧ l.lt C.N = true ∧ (∀ i, lo = some i → a.eval i = .int k n) ∧ (lo = none → n = 0) := by
            cases lo with
            | none => simp only [Option.some.injEq, Prod.mk.injEq] at hlo; obtain ⟨rfl, rfl⟩ := hlo; exact ⟨0, rfl, rfl, by simp, fun _ => rfl⟩
            | some i =>
              simp only at hlo
              split at hlo
              · rename_i ie ki hi'
                simp only [Option.some.injEq, Prod.mk.injEq] at hlo; obtain ⟨rfl, rfl⟩ := hlo
                obtain ⟨y1, y2, y3⟩ := getD_ok ht hpc hi'
                obtain ⟨n, hn, _⟩ := has_int.1 y3
                exact ⟨n, hn, y1, fun j hj => by injection hj with hj; subst hj; exact (hn ▸ y2).inv_int, by simp⟩
              · cases hlo
          have kh : ∃ n : Int, (∃ k, den C.ρ hh = .int k n) ∧ hh.lt C.N = true ∧ (∀ i, hi = some i → ∃ k, a.eval i = .int k n) ∧ (hi = none → n = ds.length) := by
            cases hi with
            | none => simp only [Option.some.injEq, Prod.mk.injEq] at hhi; obtain ⟨rfl, rfl⟩ := hhi; exact ⟨ds.length, ⟨.i64, by simp only [den, U.den, hl, D.toL]⟩, by simpa [E.lt] using x1, by simp, fun _ => rfl⟩
            | some i =>
              simp only at hhi
              split at hhi
              · rename_i ie ki hi'
                simp only [Option.some.injEq, Prod.mk.injEq] at hhi; obtain ⟨rfl, rfl⟩ := hhi
                obtain ⟨y1, y2, y3⟩ := getD_ok ht hpc hi'
                obtain ⟨n, hn, _⟩ := has_int.1 y3
                exact ⟨n, ⟨_, hn⟩, y1, fun j hj => by injection hj with hj; subst hj; exact ⟨_, (hn ▸ y2).inv_int⟩, by simp⟩
              · cases hhi
          obtain ⟨n, hn, nlt, hnv, hn0⟩ := kl
          obtain ⟨m, ⟨km, hm⟩, mlt, hmv, hm0⟩ := kh
          simp only [den, B.den, U.den, hl, hn, hm, D.toI, D.toB, D.toL, Bool.and_eq_true, decide_eq_true_eq] at hb
          obtain ⟨b1, b2, b3⟩ := hb
          have hden : den C.ρ (.bin .drop (.bin .take e hh) l) = .list ((ds.take m.toNat).drop n.toNat) := by simp only [den, B.den, hl, hn, hm, D.toI, D.toL]
          have hlen : ((ds.take m.toNat).drop n.toNat).length = m.toNat - n.toNat := by simp; omega
          have hsl : ∀ (ad : Option Addr) (cap : Nat), ds.length ≤ cap → (Instr.sliceAt t (.slice ad ds.length cap) (lo.map a.eval) (hi.map a.eval) none).run P w =
              .ok (.slice (if cap = n.toNat then ad else ad.map (·.add (n.toNat * u.cells.length))) (m.toNat - n.toNat) (cap - n.toNat)) w := by
            intro ad cap hcap
            have h1 := run_sizeT (P := P) (w := w) hsz
            have h2 : ∀ kk code, (Instr.sliceBound (.int kk m) cap code).run P w = .ok m.toNat w := fun kk code => run_sliceBound w kk m cap code (by omega) (by omega)
            have h3 : ∀ code, (Instr.sliceBound (.int k n) m.toNat code).run P w = .ok n.toNat w := fun code => run_sliceBound w k n m.toNat code (by omega) (by omega)
            have e1 : (do
                let m' ← match (none : Option Value) with
                  | some v => Instr.sliceBound v cap (if true then .slice3Acap else .slice3Alen)
                  | none => pure cap
                let h ← match hi.map a.eval, (none : Option Value) with
                  | some v, some _ => Instr.sliceBound v m' .slice3B
                  | some v, none => Instr.sliceBound v m' (if true then .sliceAcap else .sliceAlen)
                  | none, none => pure ds.length
                  | none, some _ => stuck "Slice: max without high"
                let l ← match lo.map a.eval with
                  | some v => Instr.sliceBound v h (if (none : Option Value).isSome then .slice3C else .sliceB)
                  | none => pure 0
                pure (l, h, m') : Sem (Nat × Nat × Nat)).run P w = .ok (n.toNat, m.toNat, cap) w := by
              cases hi with
              | none =>
                have := hm0 rfl
                have hmm : m.toNat = ds.length := by omega
                cases lo with
                | none => have := hn0 rfl; simp [this, hmm]
                | some i => rw [hmm] at h3; simp [hnv i rfl, h3, hmm]
              | some j =>
                obtain ⟨kk, hj⟩ := hmv j rfl
                cases lo with
                | none => have := hn0 rfl; simp [this, hj, h2]
                | some i => simp [hnv i rfl, h3, hj, h2]
            have e2 : (Instr.sliceBounds true ds.length cap (lo.map a.eval) (hi.map a.eval) none).run P w = .ok (n.toNat, m.toNat, cap) w := e1
            simp [Instr.sliceAt, Instr.slice, run_underlying hu, e2, h1]
          have fin : ∀ {ad : Option Addr} {cap : Nat}, a.eval x = .slice ad ds.length cap → ds.length ≤ cap → (∀ v, v = Value.slice (if cap = n.toNat then ad else ad.map (·.add (n.toNat * u.cells.length))) (m.toNat - n.toNat) (cap - n.toNat) → Rep w G.S v (.list ((ds.take m.toNat).drop n.toNat))) → Gives P C w G a o (.one (.dat (.bin .drop (.bin .take e hh) l) (.list u))) := by
            intro ad cap hv hcap hrep
            refine ⟨_, ?_, by simp [E.lt, x1, nlt, mlt], by rw [hden]; exact hrep _ rfl, ?_⟩
            · unfold execOp; simp only [ho, hv, Option.map_none, Sem.run_bind, hsl ad cap hcap, Result.andThen_ok]; rfl
            · rw [hden]
              exact has_list.2 ⟨_, rfl, hlm.mono (by omega), fun y hy => hall y (List.mem_of_mem_take (List.mem_of_mem_drop hy))⟩
          have hx2 := hl ▸ x2
          by_cases hz : m.toNat - n.toNat = 0
          · have hnil : (ds.take m.toNat).drop n.toNat = [] := List.eq_nil_of_length_eq_zero (by omega)
            have hle : ∃ ad cap, a.eval x = .slice ad ds.length cap ∧ ds.length ≤ cap := by
              generalize a.eval x = v at hx2
              cases hx2 with
              | nil ad cap => exact ⟨ad, cap, rfl, Nat.zero_le _⟩
              | list b off cap sz xs _ _ _ hcap => exact ⟨_, cap, rfl, hcap⟩
            obtain ⟨ad, cap, hv, hcap⟩ := hle
            refine fin hv hcap fun v hvv => ?_
            rw [hnil, hvv, hz]
            exact .nil _ _
          · generalize hvx : a.eval x = v at hx2
            cases hx2 with
            | nil ad cap => simp at b3; omega
            | list b off cap sz xs _ hsz' hne hcap hxl hS hc hw hr =>
              refine fin hvx hcap fun v' hvv => ?_
              have hszu : sz = u.cells.length := by
                cases hds : ds with
                | nil => exact absurd hds hne
                | cons d r =>
                  have := hw 0 d (by rw [hds]; rfl)
                  rw [← this]; exact (has_cells (hall d (by rw [hds]; simp))).1
              have hcapn : cap ≠ n.toNat := by omega
              rw [hvv, if_neg hcapn, ← hlen]
              simp only [Option.map_some, addr_add]
              have hmul : n.toNat * sz ≤ xs.length := by rw [hxl]; exact Nat.mul_le_mul_right _ (by omega)
              refine .list b _ _ sz ((xs.drop (n.toNat * sz)).take ((m.toNat - n.toNat) * sz)) _ hsz' (fun e => hz (by rw [← hlen, e]; rfl)) (by omega) ?_ ?_ ?_ ?_ ?_
              · rw [hlen, List.length_take, List.length_drop, hxl, ← Nat.sub_mul]
                exact Nat.min_eq_left (Nat.mul_le_mul_right _ (by omega))
              · intro i hi
                have : i < xs.length - n.toNat * sz := by simp at hi; omega
                rw [← hszu, Nat.add_assoc]; exact hS _ (by omega)
              · intro i v hi
                simp only [List.getElem?_take, List.getElem?_drop] at hi
                split at hi
                · rw [← hszu, Nat.add_assoc]; exact hc _ v hi
                · cases hi
              · intro i d hi
                exact hw _ d (by simp only [List.getElem?_drop, List.getElem?_take] at hi; split at hi; exact hi; cases hi)
              · intro i d j v c hi hj hv
                simp only [List.getElem?_drop, List.getElem?_take] at hi
                split at hi
                · refine hr (n.toNat + i) d j v c hi hj ?_
                  simp only [List.getElem?_take, List.getElem?_drop] at hv
                  split at hv
                  · rw [← hv, Nat.add_mul, Nat.add_assoc]
                  · cases hv
                · cases hi
        · cases h
      · cases h
    · cases h
  · cases h

theorem opSlice3_ok (ht : SimT C w G σ.tm a) (hpc : condB C.ρ pc = true) (h : opSlice3 P σ pc o = some (s, is)) (hit : ∀ it ∈ is, ItemOk C Φ Pre it) : Gives P C w G a o s := by
  unfold opSlice3 at h
  split at h
  · rename_i t x hi mx ho
    split at h
    · rename_i el e u hh k mm k' hu hx hhi hmx
      split at h
      · rename_i hsz
        obtain ⟨hsz, hpos, rfl⟩ := hsz
        injection h with h; simp only [Prod.mk.injEq] at h; obtain ⟨rfl, rfl⟩ := h
        obtain ⟨x1, x2, x3⟩ := getD_ok ht hpc hx
        obtain ⟨ds, hl, hlm, hall⟩ := has_list.1 x3
        obtain ⟨y1, y2, y3⟩ := getD_ok ht hpc hhi
        obtain ⟨_, z2, _⟩ := getD_ok ht hpc hmx
        obtain ⟨m, hm, _⟩ := has_int.1 y3
        have hob : ItemOk C Φ Pre (.obl pc (.bin .and (.bin .le (.kint k 0) hh) (.bin .le hh (.un .len e)))) := hit _ (by simp)
        have hb := hob.2 hpc
        simp only [den, B.den, U.den, hl, hm, D.toI, D.toB, D.toL, Bool.and_eq_true, decide_eq_true_eq] at hb
        obtain ⟨b1, b2⟩ := hb
        have hhv : a.eval hi = .int k m := (hm ▸ y2).inv_int
        have hmv : a.eval mx = .int k m := (hm ▸ z2).inv_int
        have hden : den C.ρ (.bin .take e hh) = .list (ds.take m.toNat) := by simp only [den, B.den, hl, hm, D.toI, D.toL]
        have hlen : (ds.take m.toNat).length = m.toNat := by simp; omega
        have hsl : ∀ (ad : Option Addr) (cap : Nat), ds.length ≤ cap → (Instr.sliceAt t (.slice ad ds.length cap) none (some (.int k m)) (some (.int k m))).run P w =
            .ok (.slice (if m.toNat = 0 then ad else ad.map (·.add (0 * u.cells.length))) m.toNat m.toNat) w := by
          intro ad cap hcap
          have h1 := run_sizeT (P := P) (w := w) hsz
          have h2 : ∀ code, (Instr.sliceBound (.int k m) cap code).run P w = .ok m.toNat w := fun code => run_sliceBound w k m cap code (by omega) (by omega)
          have h3 : ∀ code, (Instr.sliceBound (.int k m) m.toNat code).run P w = .ok m.toNat w := fun code => run_sliceBound w k m m.toNat code (by omega) (by omega)
          have e2 : (Instr.sliceBounds true ds.length cap none (some (.int k m)) (some (.int k m))).run P w = .ok (0, m.toNat, m.toNat) w := by
            simp [Instr.sliceBounds, h2, h3]
          simp [Instr.sliceAt, Instr.slice, run_underlying hu, e2, h1]
        have fin : ∀ {ad : Option Addr} {cap : Nat}, a.eval x = .slice ad ds.length cap → ds.length ≤ cap → (∀ v, v = Value.slice (if m.toNat = 0 then ad else ad.map (·.add (0 * u.cells.length))) m.toNat m.toNat → Rep w G.S v (.list (ds.take m.toNat))) → Gives P C w G a o (.one (.clip (.bin .take e hh) u)) := by
          intro ad cap hv hcap hrep
          refine ⟨_, ?_, by simp [E.lt, x1, y1], by rw [hden]; exact hrep _ rfl, ?_, ?_⟩
          · unfold execOp; simp only [ho, hv, hhv, hmv, Option.map_none, Option.map_some, Sem.run_bind, hsl ad cap hcap, Result.andThen_ok]; rfl
          · rw [hden]
            exact has_list.2 ⟨_, rfl, hlm.mono (by omega), fun y hy => hall y (List.mem_of_mem_take hy)⟩
          · rw [hden]; simp only [D.toL, hlen]; exact ⟨_, rfl⟩
        have hx2 := hl ▸ x2
        by_cases hz : m.toNat = 0
        · have hle : ∃ ad cap, a.eval x = .slice ad ds.length cap ∧ ds.length ≤ cap := by
            generalize a.eval x = v at hx2
            cases hx2 with
            | nil ad cap => exact ⟨ad, cap, rfl, Nat.zero_le _⟩
            | list b off cap sz xs _ _ _ hcap => exact ⟨_, cap, rfl, hcap⟩
          obtain ⟨ad, cap, hv, hcap⟩ := hle
          refine fin hv hcap fun v hvv => ?_
          rw [hvv, hz]
          exact .nil _ _
        · generalize hvx : a.eval x = v at hx2
          cases hx2 with
          | nil ad cap => simp at b2; omega
          | list b off cap sz xs _ hsz' hne hcap hxl hS hc hw hr =>
            refine fin hvx hcap fun v' hvv => ?_
            rw [hvv, if_neg hz]
            simp only [Option.map_some, addr_add, Nat.zero_mul, Nat.add_zero]
            have key := Rep.list (w := w) (S := G.S) b off m.toNat sz (xs.take (m.toNat * sz)) (ds.take m.toNat) hsz' (fun e => hz (by rw [← hlen, e]; rfl)) (by omega) (by
                rw [hlen, List.length_take, hxl]; exact Nat.min_eq_left (Nat.mul_le_mul_right _ (by omega)))
              (fun i hi => hS _ (by simp at hi; omega))
              (fun i v hi => by
                simp only [List.getElem?_take] at hi
                split at hi
                · exact hc _ v hi
                · cases hi)
              (fun i d hi => hw _ d (by simp only [List.getElem?_take] at hi; split at hi; exact hi; cases hi))
              (fun i d j v c hi hj hv => by
                simp only [List.getElem?_take] at hi hv
                split at hi
                · split at hv
                  · exact hr i d j v c hi hj hv
                  · cases hv
                · cases hi)
            rw [hlen] at key
            exact key
      · cases h
    · cases h
  · cases h

end
end Go.Eng
