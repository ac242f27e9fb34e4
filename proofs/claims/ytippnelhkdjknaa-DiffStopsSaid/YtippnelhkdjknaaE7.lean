/-
  A run of the code in plain data, and that it is sound (7).
-/
import Derived.Test.YtippnelhkdjknaaE6
/- Whole bodies: what is left to show of one, and that it is enough. -/
namespace Go.Eng
open Go Go.RowKit

inductive VC where
  | obl (pc : Cond) (e : E) (k : VC)
  | call (p f : Nat) (args : E) (pc : Cond) (k : VC)
  | room (pc : Cond) (e : E) (bytes : Nat) (k : VC)
  | branch (e : E) (t f : VC)
  | loop (v0 : Nat) (es : List E) (tys : List Ty) (body : VC)
  | again (i : Nat) (es : List E)
  | ret (e : E)
  | any (p : Nat) (t : Ty) (k : VC)
  | hav (p : Nat) (fs : List (E × E)) (k : VC)
  | range (v0 f : Nat) (args : E) (es : List E) (tys : List Ty) (et : Ty) (body done : VC)
  | stuck (why : Nat)

def VC.holds (Φ : Nat → List D → D) (Pre : Nat → List D → Prop) (R : D → Prop) : VC → (Nat → D) → List (List D → Prop) → Prop
  | .obl pc e k, ρ, stk => (condB ρ pc = true → (den ρ e).toB = true) ∧ k.holds Φ Pre R ρ stk
  | .call p f args pc k, ρ, stk => (condB ρ pc = true → Pre f (den ρ args).toL) ∧ ∀ d, d = Φ f (den ρ args).toL → k.holds Φ Pre R (upd ρ p d) stk
  | .room pc e bytes k, ρ, stk => (condB ρ pc = true → (den ρ e).toL.length ≤ maxLen ∧ (den ρ e).toL.length * bytes ≤ 140737488355328) ∧ k.holds Φ Pre R ρ stk
  | .branch e t f, ρ, stk => ((den ρ e).toB = true → t.holds Φ Pre R ρ stk) ∧ ((den ρ e).toB = false → f.holds Φ Pre R ρ stk)
  | .loop v0 es tys body, ρ, stk => ∃ (I : List D → Prop) (m : List D → Nat), I (es.map (den ρ)) ∧ ∀ xs, HasL (.ofL tys) xs → I xs → body.holds Φ Pre R (updV ρ v0 xs) ((fun ys => I ys ∧ m ys < m xs) :: stk)
  | .again i es, ρ, stk => match stk[i]? with
    | some J => J (es.map (den ρ))
    | none => False
  | .ret e, ρ, _ => R (den ρ e)
  | .any p t k, ρ, stk => ∀ d, Has t d → k.holds Φ Pre R (upd ρ p d) stk
  | .hav p fs k, ρ, stk => ∀ d, (∀ x ∈ fs, (den (upd ρ p d) x.1).toL.length = (den (upd ρ p d) x.2).toL.length) → k.holds Φ Pre R (upd ρ p d) stk
  | .range v0 f args es tys et body done, ρ, stk => Pre f (den ρ args).toL ∧ ∃ I : Nat → List D → Prop, I 0 (es.map (den ρ)) ∧
      (∀ i x xs, (Φ f (den ρ args).toL).toL[i]? = some x → Has et x → HasL (.ofL tys) xs → I i xs → body.holds Φ Pre R (upd (updV ρ v0 xs) (v0 + tys.length) x) ((fun ys => I (i + 1) ys) :: stk)) ∧
      ∀ xs, HasL (.ofL tys) xs → I (Φ f (den ρ args).toL).toL.length xs → done.holds Φ Pre R (updV ρ v0 xs) stk
  | .stuck _, _, _ => False

inductive Ex where
  | normal
  | exit (i : Nat)
  | ret
def Ex.to : Ex → Exit
  | .normal => .normal
  | .exit i => .exit i
  | .ret => .ret

def itemB (q : Nat) : Item → Bool
  | .asm _ _ => false
  | .obl pc e => pc.all (fun x => x.1.lt q) && e.lt q
  | .call p _ args pc => p == q && args.lt q && pc.all fun x => x.1.lt q
  | .room pc e _ => pc.all (fun x => x.1.lt q) && e.lt q
def itemsB : Nat → List (Nat × Item) → Bool
  | _, [] => true
  | lo, (q, it) :: r => decide (lo ≤ q) && itemB q it && itemsB (match it with | .call .. => q + 1 | _ => q) r
def itemsVC : List (Nat × Item) → VC → VC
  | [], k => k
  | (_, .asm _ _) :: r, k => itemsVC r k
  | (_, .obl pc e) :: r, k => .obl pc e (itemsVC r k)
  | (_, .call p f args pc) :: r, k => .call p f args pc (itemsVC r k)
  | (_, .room pc e b) :: r, k => .room pc e b (itemsVC r k)
def allItems (p0 : Nat) (r : List (Nat × Eff)) : List (Nat × Item) := r.flatMap fun x => x.2.items.map fun it => (p0 + x.1, it)

def firstReg : Code → Option Nat
  | .region id _ _ => some id
  | .seq a b => match firstReg a with | some i => some i | none => firstReg b
  | .cond _ a b => match firstReg a with | some i => some i | none => firstReg b
  | .block _ c | .loop c | .scope c => firstReg c
  | _ => none

/-- A slot that is to hold a pointer's datum holds a box of the call's own: the box is only read from now on. -/
def frz1 (σ : St) (x : Slot × Ty × Option OwnK) : St :=
  match x with
  | (.tmp t, .ptr _, none) =>
    match σ.tm t with
    | some ([], .one (.adr id 0)) =>
      match σ.hp id with
      | some (_, cs) => match asDatas cs with
        | some (ds, ts) => ⟨upd σ.tm t (some ([], .one (.dat (.un .ptrc (.ofL ds)) (.ptr (.ofL ts))))), upd σ.hp id (some (true, cs)), σ.live⟩
        | none => σ
      | none => σ
    | _ => σ
  | _ => σ
def frzSt (l : List (Slot × Ty × Option OwnK)) (σ : St) : St := l.foldl frz1 σ

theorem Sim.frz1 {w0 : World} {S0 : Base} {C : Cx} {G : Gh} {σ : St} {a : Act} {w : World} {n : Nat} (hs : Sim n w0 S0 C G σ a w) (x : Slot × Ty × Option OwnK) : ∃ G', Sim n w0 S0 C G' (Eng.frz1 σ x) a w := by
  unfold Eng.frz1
  split
  · rename_i t fs
    split
    · rename_i id ht
      split
      · rename_i ro cs hid
        split
        · rename_i ds ts hds
          obtain ⟨G', hlat, hm, hcov, hβ, _⟩ := hs.m.freeze hid (asDatas_notMap hds)
          refine ⟨G', ⟨hm.congr rfl rfl, ?_, hs.sz, hs.defers⟩⟩
          have ht' := hs.t.later hlat
          intro t' c s h
          by_cases hti : t' = t
          · subst hti
            simp only [upd_same, Option.some.injEq, Prod.mk.injEq] at h
            obtain ⟨rfl, rfl⟩ := h
            obtain ⟨v, hv, _, _, hr⟩ := hs.t t' _ _ ht
            obtain ⟨_, _, hblk, _⟩ := hs.m.box _ _ _ hid
            obtain ⟨vs, T, hgb, hrc⟩ := hblk.cells (asDatas_notMap hds)
            obtain ⟨m1, m2, m3, m4, m5⟩ := asDatas_ok hds hrc
            have hd : den C.ρ (.un .ptrc (.ofL ds)) = .ptr (ds.map (den C.ρ)) := by simp only [den, den_ofL, U.den, D.toL]
            have hvv : v = .pointer (some ⟨G.β id, 0, none⟩) := by
              have : condB C.ρ ([] : Cond) = true := rfl
              rw [if_pos this] at hr
              exact hr.2
            refine ⟨v, hv, by simp, by simpa [SV.lt, SC.lt, E.lt] using m1, ?_⟩
            have : condB C.ρ ([] : Cond) = true := rfl
            rw [if_pos this]
            refine ⟨by simpa [E.lt] using m1, ?_, ?_⟩
            · rw [hd, hvv]
              refine .ptr _ vs _ (by simp [m2]) (fun i hi => hcov i (by simp [m2, hrc.1] at hi; exact hi)) (fun i v hi => ?_) (fun i v d hi hdd => ?_)
              · rw [cell_of_row w _ i _ T _ hgb]; simpa using hi
              · simp only [List.getElem?_map, Option.map_eq_some_iff] at hdd
                obtain ⟨e, he, rfl⟩ := hdd
                exact (m4 i v e hi he).keep hlat.S hlat.cell
            · rw [hd]; exact has_ptr.2 (.inr ⟨_, rfl, m5⟩)
          · simp only [upd_ne _ _ hti] at h
            exact ht' t' c s h
        · exact ⟨G, hs⟩
      · exact ⟨G, hs⟩
    · exact ⟨G, hs⟩
  · exact ⟨G, hs⟩
theorem Sim.frzSt {w0 : World} {S0 : Base} {C : Cx} {a : Act} {w : World} {n : Nat} : ∀ (l : List (Slot × Ty × Option OwnK)) {G : Gh} {σ : St}, Sim n w0 S0 C G σ a w → ∃ G', Sim n w0 S0 C G' (Eng.frzSt l σ) a w
  | [], G, _, h => ⟨G, h⟩
  | x :: l, _, _, h => by
    obtain ⟨G', h'⟩ := h.frz1 x
    exact Sim.frzSt l h'

structure En where
  P : Program
  cs : Tbl
  n : Nat
  anns : List (Nat × Ann)
  fw : FTbl
  wl : FTbl
  its : List (Nat × (List Ty × Ty)) := []

def condE (σ : St) (P : Program) (x : Operand) : Option E :=
  match getD_ P σ [] x 0 with
  | some (e, .bool) => some e
  | _ => none

/-- A condition, as an expression. -/
def condEx : Cond → E
  | [] => .kbool true
  | [(e, true)] => e
  | (e, true) :: r => .bin .and e (condEx r)
  | (e, false) :: r => .bin .and (.un .not e) (condEx r)
/-- A region's operations, one behind the other; two ways where a guarded call is handed objects. -/
def regGo (N : En) (ops : Array Oper) (p0 M : Nat) (fin : List (Nat × Eff) → St → VC) : List Nat → List (Nat × Eff) → St → VC
  | [], acc, σ => fin acc σ
  | i :: r, acc, σ =>
    match ops[i]? with
    | none => .stuck 21
    | some o =>
      match effOpF N.P N.cs ops σ (p0 + i) o with
      | some e =>
        if e.ent.2.lt M && itemsB (p0 + i) (e.items.map fun it => (p0 + i, it)) then
          itemsVC (e.items.map fun it => (p0 + i, it)) (regGo N ops p0 M fin r (acc ++ [(i, e)]) (e.app σ))
        else .stuck (1000 + i)
      | none =>
        match guardOf ops σ o, (guardOf ops σ o).bind (fun pc => opOCall N.P N.cs σ pc o), effOpD (some true) N.P N.cs ops σ (p0 + i) o, effOpD (some false) N.P N.cs ops σ (p0 + i) o with
        | some pc, some x, some et, some ef =>
          if et.ent.2.lt M && ef.ent.2.lt M && (pc.all fun y => y.1.lt (p0 + i)) && x.args.lt (p0 + i) then
            .branch (condEx pc) (.call (p0 + i) x.k x.args [] (regGo N ops p0 M fin r (acc ++ [(i, et)]) (et.app σ))) (regGo N ops p0 M fin r (acc ++ [(i, ef)]) (ef.app σ))
          else .stuck (5000 + i)
        | _, _, _, _ => .stuck (2000 + i)

/-- Does a region end in a store into a slice's element? -/
def elemAdr (ops : Array Oper) : Nat → Nat → Bool
  | 0, _ => false
  | f + 1, t => ops.any fun o => o.dst == some t && match o.op with
    | .fieldAddr _ (.tmp x) _ => elemAdr ops f x
    | .indexAddr .. => true
    | _ => false
def wildEnd (ops : Array Oper) : Bool := decide (0 < ops.size) && match ops[ops.size - 1]? with
  | some o => match o.op with
    | .store _ (.tmp x) _ => elemAdr ops 10 x
    | _ => false
  | none => false
def isCallOf (l : FTbl) (o : Oper) : Bool := match o.op with
  | .call { callee := .value (.func k), .. } => (lk l k).isSome
  | _ => false
/-- Which of a region's operations is a call that makes something new, which is written over at once. -/
def cpIdx (N : En) (ops : Array Oper) (draw : Bool) : Option Nat :=
  if draw || N.cs.fr != 0 then none else (List.range ops.size).find? fun c => decide (c + 2 < ops.size) && match ops[c]?, ops[c + 2]? with
    | some o, some o2 => isCallOf N.fw o && isCallOf N.wl o2
    | _, _ => false
theorem cpIdx_ok {N : En} {ops : Array Oper} {draw : Bool} {c : Nat} (h : cpIdx N ops draw = some c) : draw = false ∧ N.cs.fr = 0 ∧ c + 2 < ops.size := by
  unfold cpIdx at h
  split at h
  · cases h
  · rename_i hd
    simp only [Bool.or_eq_true, not_or, Bool.not_eq_true, bne_iff_ne, ne_eq, Decidable.not_not] at hd
    have h2 := List.find?_some h
    simp only [Bool.and_eq_true, decide_eq_true_eq] at h2
    exact ⟨hd.1, hd.2, h2.1⟩

def isNq (o : Oper) : Bool := match o.op with
  | .binOp .eql _ _ y _ => nilOperand y
  | _ => false
def isStTmp (o : Oper) : Bool := match o.op with
  | .store _ _ (.tmp _) => true
  | _ => false
def nqEnd (ops : Array Oper) : Bool := match ops[ops.size - 1]? with
  | some o => isNq o
  | none => false
def wsEnd (N : En) (ops : Array Oper) : Bool := match ops[ops.size - 2]?, ops[ops.size - 1]? with
  | some o, some o2 => isCallOf N.wl o && isStTmp o2
  | _, _ => false
/-- A region's end of its own kind: from where on; which kind. -/
def tailIdx (N : En) (ops : Array Oper) (draw : Bool) : Option (Nat × Bool) :=
  if draw then none else
  if nqEnd ops = true ∧ 0 < ops.size then some (ops.size - 1, true)
  else if wsEnd N ops = true ∧ N.cs.fr = 2 ∧ 1 < ops.size then some (ops.size - 2, false)
  else none
theorem tailIdx_ok {N : En} {ops : Array Oper} {draw b : Bool} {c : Nat} (h : tailIdx N ops draw = some (c, b)) : draw = false ∧ (if b then c + 1 = ops.size else c + 2 = ops.size ∧ N.cs.fr = 2) := by
  unfold tailIdx at h
  split at h
  · cases h
  · rename_i hd
    refine ⟨by simpa using hd, ?_⟩
    split at h
    · rename_i h1
      simp only [Option.some.injEq, Prod.mk.injEq] at h
      obtain ⟨rfl, rfl⟩ := h
      simp only [if_true]; omega
    · split at h
      · rename_i h1
        simp only [Option.some.injEq, Prod.mk.injEq] at h
        obtain ⟨rfl, rfl⟩ := h
        simp only [Bool.false_eq_true, if_false]
        exact ⟨by omega, h1.2.1⟩
      · cases h
def dstsB (N : En) (ops : Array Oper) : Bool := ops.toList.all fun o => match o.dst with | some d => decide (d < N.n) | none => true

/-- What is kept of the temporaries through the rounds of a loop over a function. -/
def rfEnt (σ : St) : Option (Cond × SV) → Option (Cond × SV)
  | some ([], .one (.dat e t)) => some ([], .one (.dat e t))
  | some ([], .one (.nils t)) => some ([], .one (.nils t))
  | some ([], .one (.own _ e t)) => some ([], .one (.dat e (.list t)))
  | some ([], .one (.adr id off)) => if (σ.hp id).isSome then some ([], .one (.adr id off)) else none
  | some ([], .one (.mref id)) => if (σ.hp id).isSome then some ([], .one (.mref id)) else none
  | _ => none
def rfSt (σ : St) : St := ⟨fun t => rfEnt σ (σ.tm t), σ.hp, σ.live⟩
/-- A slice of its own kind among the temporaries becomes plain data: nothing is written over it any more. -/
def frX1 (σ : St) (t : Nat) : St :=
  match σ.tm t with
  | some ([], .one (.xo g u)) => match σ.live g with
    | some (e, _, u') => if u' = u ∧ g.ex = true ∧ 0 < u.cells.length then ⟨upd σ.tm t (some ([], .one (.dat e (.list u)))), σ.hp, fun g' => if g' = g then none else σ.live g'⟩ else σ
    | none => σ
  | _ => σ
/-- Which: told by numbers from 2000000 on. -/
def frXs (N : En) (ann : Ann) (σ : St) : St := if N.cs.fr == 0 then (ann.drop.filterMap fun x => if 2000000 ≤ x then some (x - 2000000) else none).foldl frX1 σ else σ
/-- The same for a cell of a variable; which variables, ahead of a region: told by numbers from 3000000 on. -/
def frB1 (id : Nat) (σ : St) (i : Nat) : St :=
  match σ.hp id with
  | some (false, cs) => match cs[i]? with
    | some (.xo g u) => match σ.live g with
      | some (e, _, u') => if u' = u ∧ g.ex = true ∧ 0 < u.cells.length then ⟨σ.tm, upd σ.hp id (some (false, cs.set i (.dat e (.list u)))), fun g' => if g' = g then none else σ.live g'⟩ else σ
      | none => σ
    | _ => σ
  | _ => σ
def frBt (σ : St) (t : Nat) : St :=
  match σ.tm t with
  | some ([], .one (.adr id 0)) => match σ.hp id with
    | some (_, cs) => (List.range cs.length).foldl (frB1 id) σ
    | none => σ
  | _ => σ
def frBs (N : En) (r : Nat) (σ : St) : St := if N.cs.fr == 0 then (((lk N.anns r).getD {}).drop.filterMap fun x => if 3000000 ≤ x then some (x - 3000000) else none).foldl frBt σ else σ
def rfOk (N : En) : Bool := N.cs.fr == 0 && N.cs.l.all fun x => match x.2.ob with | some ob => !ob.isPl | none => true
def noTm (h : Head) : Head := { h with st := ⟨fun _ => none, h.st.hp, h.st.live⟩ }

def vc (N : En) : Code → (Ex → St → Nat → Nat → VC) → St → Nat → Nat → VC
  | .skip, k, σ, p, d => k .normal σ p d
  | .label _, k, σ, p, d => k .normal σ p d
  | .exit i, k, σ, p, d => k (.exit i) σ p d
  | .ret, k, σ, p, d => k .ret σ p d
  | .region id ops draw, k, σx, p, d =>
    let σ := frBs N id σx
    match tailIdx N ops draw with
    | some (c, true) => regGo N ops p (p + c) (fun _ σ1 => match (ops[c]?).bind (nqOp N.P N.n (p + c) σ1) with
        | some (t, e) =>
          if dstsB N ops then .branch (.bin .eq (.un .len e) (.kint .i64 0)) (.any (p + c) .bool (k .normal (setT σ1 t (.dat (.var (p + c)) .bool)) (p + ops.size) d)) (.any (p + c) .bool (k .normal (setT σ1 t (.dat (.kbool false) .bool)) (p + ops.size) d))
          else .stuck 9001
        | none => .stuck 9000) (List.range' 0 c) [] σ
    | some (c, false) => regGo N ops p (p + c) (fun _ σ1 => match ops[c]?, ops[c + 1]? with
        | some o1, some o2 => match wsOp N.P N.wl N.n σ1 o1 o2 with
          | some x => if dstsB N ops then .any (p + c) (.agg x.f) (k .normal (x.after σ1 (p + c)) (p + ops.size) d) else .stuck 9003
          | none => .stuck 9002
        | _, _ => .stuck 9004) (List.range' 0 c) [] σ
    | none =>
    if N.cs.fr == 2 && wildEnd ops then
      regGo N ops p (p + (ops.size - 1)) (fun r σ1 => match ops[ops.size - 1]? with
        | some o =>
          if hvOp N.P σ1 o && (!draw || (drawOk ops r && backB ops && (List.range (ops.size - 1)).all fun i => ordB ops ops.size i (ops.size - 1))) && (ops.toList.all fun o => match o.dst with | some d => decide (d < N.n) | none => true) then
            .hav (p + (ops.size - 1)) (hvFacts σ1 (p + (ops.size - 1))) (k .normal (hvSt σ1 (p + (ops.size - 1))) (p + ops.size) d)
          else .stuck (7000 + id)
        | none => .stuck 7001) (List.range' 0 (ops.size - 1)) [] σ
    else
    match cpIdx N ops draw with
    | some c => regGo N ops p (p + c) (fun _ σ1 => match cpOp N.P N.fw N.wl N.n σ1 ops c with
        | some x =>
          if x.args.lt (p + c) && (ops.toList.all fun o => match o.dst with | some d => decide (d < N.n) | none => true) then
            .call (p + c) x.k1 x.args [] (.any (p + c + 2) x.res (regGo N ops p (p + ops.size) (fun _ σ2 => k .normal σ2 (p + ops.size) d) (List.range' (c + 3) (ops.size - (c + 3))) [] (x.after σ1 (p + c + 2))))
          else .stuck 8001
        | none => .stuck 8000) (List.range' 0 c) [] σ
    | none =>
    match plIdx N.P N.cs σ ops draw with
    | some c => regGo N ops p (p + c) (fun _ σ1 =>
        match (ops[c]?).bind (opPl N.P N.cs N.n σ1) with
        | some x =>
          if x.e.lt (p + c) && (ops.toList.all fun o => match o.dst with | some d => decide (d < N.n) | none => true) then
            .call (p + c) x.k (.cons x.e .nil) [] (regGo N ops p (p + ops.size) (fun _ σ2 => k .normal σ2 (p + ops.size) d) (List.range' (c + 1) (ops.size - (c + 1))) [] (x.after σ1 (p + c)))
          else .stuck 6001
        | none => .stuck 6000) (List.range' 0 c) [] σ
    | none => regGo N ops p (p + ops.size) (fun r σ' =>
      if (!draw || (drawOk ops r && backB ops)) && (ops.toList.all fun o => match o.dst with | some d => decide (d < N.n) | none => true) then k .normal σ' (p + ops.size) d
      else .stuck (1000 + id)) (List.range ops.size) [] σ
  | .seq a b, k, σ, p, d => vc N a (fun ex σ p d => match ex with | .normal => vc N b k σ p d | e => k e σ p d) σ p d
  | .cond c x y, k, σ, p, d =>
    match condE σ N.P c with
    | some (.kbool true) => vc N x k σ p d
    | some (.kbool false) => vc N y k σ p d
    | some e => if e.lt p then .branch e (vc N x k σ p d) (vc N y k σ p d) else .stuck 1
    | none => .stuck 2
  | .block i c, k, σ, p, d => vc N c (fun ex σ p d => match ex with | .exit j => if j = i then k .normal σ p d else k (.exit j) σ p d | e => k e σ p d) σ p d
  | .loop c, k, σ, p, d =>
    if !N.its.isEmpty && !plainC c then .stuck 35 else
    let h := mkHead N.n (((firstReg c).bind (lk N.anns)).getD {}) ((((firstReg c).bind (lk N.anns)).getD {}).own.map (·.1) ++ assigned c) σ p
    match fitSt N.n h σ with
    | some es => .loop p es (h.slots.map fun x => slotTy x.2.1 x.2.2) (vc N c (fun ex σ' p' d' => match ex with
        | .normal => match fitSt N.n h (frzSt h.slots σ') with
          | some es' => .again (d' - 1 - d) es'
          | none => .stuck (3000 + p)
        | e => k e σ' p' d') h.st (p + h.size) (d + 1))
    | none => .stuck (4000 + p)
  | .rangeFunc g ps assign body, k, σx, p, d =>
    let σ := frXs N (((firstReg assign).bind (lk N.anns)).getD {}) σx
    match getV N.P σ [] g 0, ps.toList with
    | some (.one (.dat fe (.fn kf fs))), [q] =>
      match lk N.its kf with
      | some (fs', et) =>
        let h := mkHead N.n (((firstReg assign).bind (lk N.anns)).getD {}) [] (rfSt σ) p
        match fitSt N.n h (rfSt σ) with
        | some es =>
          if rfOk N && plainC assign && plainC body && decide (q < N.n) && fe.lt p && decide (fs' = fs.toL) && et.cells.all Ty.bare && ((h.slots.map fun x => slotTy x.2.1 x.2.2).all Ty.scalar) then
            .range p kf (.ofL ((cellsE fe 0 fs.toL).map (·.1))) es (h.slots.map fun x => slotTy x.2.1 x.2.2) et
              (vc N assign (fun ex σ1 p1 d1 => match ex with
                | .normal => vc N body (fun ex σ2 p2 d2 => match ex with
                  | .normal => match fitSt N.n (noTm h) (frzSt h.slots σ2) with
                    | some es' => .again (d2 - 1 - d) es'
                    | none => .stuck (3000 + p)
                  | e => k e ⟨h.st.tm, σ2.hp, σ2.live⟩ p2 d2) σ1 p1 d1
                | _ => .stuck 31) ⟨upd h.st.tm q (some ([], .one (.dat (.var (p + h.size)) et))), h.st.hp, h.st.live⟩ (p + h.size + 1) (d + 1))
              (k .normal h.st (p + h.size) d)
          else .stuck 32
        | none => .stuck (4000 + p)
      | none => .stuck 33
    | _, _ => .stuck 34
  | _, _, _, _, _ => .stuck 3

theorem E.lt_mono {n m : Nat} (h : n ≤ m) : ∀ {e : E}, e.lt n = true → e.lt m = true := by
  intro e
  induction e with
  | var i => intro he; simp only [E.lt, decide_eq_true_eq] at he ⊢; omega
  | kint | kbool | kstr | nilp | nil => intro _; rfl
  | cons a b iha ihb => intro he; simp only [E.lt, Bool.and_eq_true] at he ⊢; exact ⟨iha he.1, ihb he.2⟩
  | un o e ih => intro he; exact ih he
  | bin o a b iha ihb => intro he; simp only [E.lt, Bool.and_eq_true] at he ⊢; exact ⟨iha he.1, ihb he.2⟩
  | ite c a b ihc iha ihb => intro he; simp only [E.lt, Bool.and_eq_true] at he ⊢; exact ⟨⟨ihc he.1.1, iha he.1.2⟩, ihb he.2⟩

theorem condB_agree {ρ ρ' : Nat → D} {n : Nat} (h : ∀ i, i < n → ρ' i = ρ i) {c : Cond} (hc : (c.all fun x => x.1.lt n) = true) : condB ρ' c = condB ρ c := by
  unfold condB
  rw [List.all_eq_true] at hc
  rw [Bool.eq_iff_iff, List.all_eq_true, List.all_eq_true]
  constructor
  · intro H x hx; rw [← den_agree h (hc x hx)]; exact H x hx
  · intro H x hx; rw [den_agree h (hc x hx)]; exact H x hx

theorem items_hold {Φ : Nat → List D → D} {Pre : Nat → List D → Prop} {R : D → Prop} {k : VC} {stk : List (List D → Prop)} {N : Nat} {M : Nat → Prop} : ∀ {L : List (Nat × Item)} {lo : Nat} {ρ : Nat → D}, itemsB lo L = true → (∀ x ∈ L, x.1 < N) →
    (itemsVC L k).holds Φ Pre R ρ stk → ∃ ρ', (∀ i, i < lo → ρ' i = ρ i) ∧ (∀ x ∈ L, ItemOk ⟨ρ', N, M⟩ Φ Pre x.2) ∧ k.holds Φ Pre R ρ' stk
  | [], lo, ρ, _, _, h => ⟨ρ, fun _ _ => rfl, by simp, h⟩
  | (q, it) :: r, lo, ρ, hb, hN, h => by
    simp only [itemsB, Bool.and_eq_true, decide_eq_true_eq] at hb
    obtain ⟨⟨hlo, hit⟩, hr⟩ := hb
    have hN' : ∀ x ∈ r, x.1 < N := fun x hx => hN x (List.mem_cons_of_mem _ hx)
    have hq : q < N := hN (q, it) (List.mem_cons_self ..)
    cases it with
    | asm pc b => simp [itemB] at hit
    | obl pc e =>
      obtain ⟨h1, h2⟩ := h
      obtain ⟨ρ', a1, a2, a3⟩ := items_hold (lo := q) hr hN' h2
      simp only [itemB, Bool.and_eq_true] at hit
      refine ⟨ρ', fun i hi => a1 i (by omega), fun x hx => ?_, a3⟩
      rcases List.mem_cons.1 hx with rfl | hx
      · exact ⟨E.lt_mono (by show q ≤ N; omega) hit.2, fun hc => by
          show (den ρ' e).toB = true
          rw [den_agree a1 hit.2]; exact h1 ((condB_agree a1 hit.1).symm.trans hc)⟩
      · exact a2 x hx
    | call p f args pc =>
      obtain ⟨h1, h2⟩ := h
      simp only [itemB, Bool.and_eq_true, beq_iff_eq] at hit
      obtain ⟨⟨rfl, hargs⟩, hpc⟩ := hit
      obtain ⟨ρ', a1, a2, a3⟩ := items_hold (lo := p + 1) hr hN' (h2 _ rfl)
      have agree : ∀ i, i < p → ρ' i = ρ i := fun i hi => (a1 i (by omega)).trans (upd_ne _ _ (by omega))
      refine ⟨ρ', fun i hi => agree i (by omega), fun x hx => ?_, a3⟩
      rcases List.mem_cons.1 hx with rfl | hx
      · refine ⟨E.lt_mono (by show p ≤ N; omega) hargs, hq, ?_, fun hc => ?_⟩
        · show ρ' p = Φ f (den ρ' args).toL
          rw [a1 p (by omega), upd_same, den_agree agree hargs]
        · show Pre f (den ρ' args).toL
          rw [den_agree agree hargs]; exact h1 ((condB_agree agree hpc).symm.trans hc)
      · exact a2 x hx
    | room pc e b =>
      obtain ⟨h1, h2⟩ := h
      obtain ⟨ρ', a1, a2, a3⟩ := items_hold (lo := q) hr hN' h2
      simp only [itemB, Bool.and_eq_true] at hit
      refine ⟨ρ', fun i hi => a1 i (by omega), fun x hx => ?_, a3⟩
      rcases List.mem_cons.1 hx with rfl | hx
      · exact ⟨E.lt_mono (by show q ≤ N; omega) hit.2, fun hc => by
          show (den ρ' e).toL.length ≤ maxLen ∧ (den ρ' e).toL.length * b ≤ _
          rw [den_agree a1 hit.2]; exact h1 ((condB_agree a1 hit.1).symm.trans hc)⟩
      · exact a2 x hx

theorem condEx_den {ρ : Nat → D} : ∀ {pc : Cond}, (den ρ (condEx pc)).toB = condB ρ pc
  | [] => rfl
  | [(e, true)] => by simp [condEx, condB]
  | [(e, false)] => by simp [condEx, condB, den, B.den, U.den, D.toB]
  | (e, true) :: x :: r => by
    have := condEx_den (ρ := ρ) (pc := x :: r)
    show ((den ρ e).toB && (den ρ (condEx (x :: r))).toB) = _
    rw [this]
    simp [condB]
  | (e, false) :: x :: r => by
    have := condEx_den (ρ := ρ) (pc := x :: r)
    show (!(den ρ e).toB && (den ρ (condEx (x :: r))).toB) = _
    rw [this]
    simp [condB]
theorem itemsB_all : ∀ {L : List (Nat × Item)} {lo : Nat}, itemsB lo L = true → ∀ x ∈ L, itemB x.1 x.2 = true
  | [], _, _, x, hx => by simp at hx
  | (q, it) :: r, lo, h, x, hx => by
    simp only [itemsB, Bool.and_eq_true] at h
    rcases List.mem_cons.1 hx with rfl | hx
    · exact h.1.2
    · exact itemsB_all h.2 x hx
theorem itemOk_agree {Φ : Nat → List D → D} {Pre : Nat → List D → Prop} {ρ ρ' : Nat → D} {N q : Nat} {M : Nat → Prop} {it : Item} (h : ItemOk ⟨ρ, N, M⟩ Φ Pre it) (hb : itemB q it = true) (hag : ∀ i, i < q + 1 → ρ' i = ρ i) : ItemOk ⟨ρ', N, M⟩ Φ Pre it := by
  have hag' : ∀ i, i < q → ρ' i = ρ i := fun i hi => hag i (by omega)
  cases it with
  | asm pc b => simp [itemB] at hb
  | obl pc e =>
    simp only [itemB, Bool.and_eq_true] at hb
    refine ⟨h.1, fun hc => ?_⟩
    show (den ρ' e).toB = true
    rw [den_agree hag' hb.2]
    exact h.2 ((condB_agree hag' hb.1).symm.trans hc)
  | call p f args pc =>
    simp only [itemB, Bool.and_eq_true, beq_iff_eq] at hb
    obtain ⟨⟨rfl, hargs⟩, hpc⟩ := hb
    obtain ⟨h1, h2, h3, h4⟩ := h
    refine ⟨h1, h2, ?_, fun hc => ?_⟩
    · show ρ' p = Φ f (den ρ' args).toL
      rw [hag p (by omega), den_agree hag' hargs]; exact h3
    · show Pre f (den ρ' args).toL
      rw [den_agree hag' hargs]; exact h4 ((condB_agree hag' hpc).symm.trans hc)
  | room pc e b =>
    simp only [itemB, Bool.and_eq_true] at hb
    refine ⟨h.1, fun hc => ?_⟩
    show (den ρ' e).toL.length ≤ maxLen ∧ (den ρ' e).toL.length * b ≤ _
    rw [den_agree hag' hb.2]
    exact h.2 ((condB_agree hag' hb.1).symm.trans hc)

theorem regGo_hold {N : En} {Φ : Nat → List D → D} {Pre : Nat → List D → Prop} {R : D → Prop} {ops : Array Oper} {p0 M : Nat} {MM : Nat → Prop} {fin : List (Nat × Eff) → St → VC} {stk : List (List D → Prop)} :
    ∀ (n s : Nat) (acc : List (Nat × Eff)) (σ : St) (ρ : Nat → D), (regGo N ops p0 M fin (List.range' s n) acc σ).holds Φ Pre R ρ stk → p0 + s + n ≤ M →
      ∃ (ρ' : Nat → D) (r : List (Nat × Eff)) (σ' : St), (∀ i, i < p0 + s → ρ' i = ρ i) ∧ Runs N.P N.cs ops p0 M r σ σ' ∧ r.map (·.1) = List.range' s n ∧ (∀ x ∈ r, ∀ it ∈ x.2.items, ItemOk ⟨ρ', M, MM⟩ Φ Pre it) ∧ (fin (acc ++ r) σ').holds Φ Pre R ρ' stk
  | 0, s, acc, σ, ρ, h, _ => ⟨ρ, [], σ, fun _ _ => rfl, .nil σ, rfl, by simp, by rw [List.append_nil]; exact h⟩
  | n + 1, s, acc, σ, ρ, h, hM => by
    rw [List.range'_succ] at h ⊢
    simp only [regGo] at h
    split at h
    · exact h.elim
    · rename_i o ho
      split at h
      · rename_i e he
        split at h
        · rename_i hc
          simp only [Bool.and_eq_true] at hc
          obtain ⟨hlt, hib⟩ := hc
          obtain ⟨ρ1, a1, a2, a3⟩ := items_hold (N := M) (M := MM) hib (fun x hx => by
            obtain ⟨it, _, rfl⟩ := List.mem_map.1 hx
            show p0 + s < M; omega) h
          obtain ⟨ρ', r, σ', b1, b2, b3, b4, b5⟩ := regGo_hold n (s + 1) _ _ ρ1 a3 (by omega)
          refine ⟨ρ', (s, e) :: r, σ', fun i hi => (b1 i (by omega)).trans (a1 i hi), .cons ho ⟨none, he⟩ hlt b2, by simp [b3], ?_, by simpa using b5⟩
          intro x hx it hit
          rcases List.mem_cons.1 hx with rfl | hx
          · have hm : (p0 + s, it) ∈ e.items.map fun it => (p0 + s, it) := List.mem_map.2 ⟨it, hit, rfl⟩
            exact itemOk_agree (a2 _ hm) (itemsB_all hib _ hm) (fun i hi => b1 i (by show i < p0 + (s + 1); have : i < p0 + s + 1 := hi; omega))
          · exact b4 x hx it hit
        · exact h.elim
      · split at h
        · rename_i pc x et ef hg hx het hef
          split at h
          · rename_i hc
            simp only [Bool.and_eq_true] at hc
            obtain ⟨⟨⟨hlt, hlf⟩, hpc⟩, hargs⟩ := hc
            obtain ⟨h1, h2⟩ := h
            rw [condEx_den] at h1 h2
            have agree : ∀ ρ' : Nat → D, (∀ i, i < p0 + s → ρ' i = ρ i) → condB ρ' pc = condB ρ pc := fun ρ' hag => condB_agree hag hpc
            cases hb : condB ρ pc with
            | true =>
              obtain ⟨k1, k2⟩ := h1 hb
              have k3 := k2 _ rfl
              obtain ⟨ρ', r, σ', b1, b2, b3, b4, b5⟩ := regGo_hold n (s + 1) _ _ _ k3 (by omega)
              have ag : ∀ i, i < p0 + s → ρ' i = ρ i := fun i hi => (b1 i (by omega)).trans (upd_ne _ _ (by omega))
              refine ⟨ρ', (s, et) :: r, σ', ag, .cons ho ⟨some true, het⟩ hlt b2, by simp [b3], ?_, by simpa using b5⟩
              intro y hy it hit
              rcases List.mem_cons.1 hy with rfl | hy
              · rw [hg, Option.bind_some] at hx
                unfold effOpD at het
                simp only [hg, hx] at het
                split at het
                · cases het
                injection het with het
                rw [← het] at hit
                simp only [List.mem_cons, List.not_mem_nil, or_false] at hit
                rcases hit with rfl | rfl
                · show condB ρ' pc = true
                  rw [agree ρ' ag, hb]
                · refine ⟨E.lt_mono (by show p0 + s ≤ M; omega) hargs, by show p0 + s < M; omega, ?_, fun _ => ?_⟩
                  · show ρ' (p0 + s) = Φ x.k (den ρ' x.args).toL
                    rw [b1 (p0 + s) (by omega), upd_same, den_agree ag hargs]
                  · show Pre x.k (den ρ' x.args).toL
                    rw [den_agree ag hargs]; exact k1 rfl
              · exact b4 y hy it hit
            | false =>
              obtain ⟨ρ', r, σ', b1, b2, b3, b4, b5⟩ := regGo_hold n (s + 1) _ _ _ (h2 hb) (by omega)
              have ag : ∀ i, i < p0 + s → ρ' i = ρ i := fun i hi => b1 i (by omega)
              refine ⟨ρ', (s, ef) :: r, σ', ag, .cons ho ⟨some false, hef⟩ hlf b2, by simp [b3], ?_, by simpa using b5⟩
              intro y hy it hit
              rcases List.mem_cons.1 hy with rfl | hy
              · unfold effOpD at hef
                simp only [hg] at hef
                split at hef
                · rename_i pc' sig hpc' _
                  injection hpc' with hpc'; subst hpc'
                  injection hef with hef
                  rw [← hef] at hit
                  simp only [List.mem_cons, List.not_mem_nil, or_false] at hit
                  subst hit
                  show condB ρ' pc = false
                  rw [agree ρ' ag, hb]
                · cases hef
              · exact b4 y hy it hit
          · exact h.elim
        · exact h.elim

section
variable {w0 : World} {S0 : Base} {C : Cx} {G : Gh} {σ : St} {a : Act} {w : World} {n : Nat}

theorem Sim.drew (h : Sim n w0 S0 C G σ a w) : Sim n w0 S0 C G σ a { w with drawn := w.drawn + 1 } := by
  have hlat : Later C w G C { w with drawn := w.drawn + 1 } G := ⟨fun _ h => ⟨rfl, h⟩, fun _ h => h, fun _ _ h => h, fun _ _ _ => rfl, fun _ _ => rfl, fun _ _ => rfl⟩
  refine ⟨⟨h.m.below.drew, h.m.foot0, h.m.keep, h.m.pin, h.m.pinmu, h.m.footlt, h.m.footnew, h.m.boxM, ?_, h.m.inj, ?_, h.m.ownnew, h.m.ownne, h.m.ownbox, h.m.fresh_later hlat rfl (fun _ _ _ => rfl) (fun _ _ h _ => h), h.m.wz⟩, h.t.later hlat, h.sz, h.defers⟩
  · intro id ro cs hx
    obtain ⟨h1, h2, h3, h5⟩ := h.m.box id ro cs hx
    exact ⟨h1, h2, h3.later hlat rfl, h5⟩
  · intro g e T t hx
    exact (h.m.own g e T t hx).later hlat (fun _ _ => rfl) (fun _ _ _ h => h)

/-- What a base must be for the walk. -/
structure VEnv (N : En) (Φ : Nat → List D → D) (Pre : Nat → List D → Prop) (w0 : World) (S0 : Base) : Prop where
  fl : ∀ k sig ob, lk N.cs.l k = some sig → sig.ob = some ob → ob.isPl = true → ∀ b o, S0.foot b o → ¬ NewB w0 S0 b
  cf : Env1 N.P N.cs S0 Φ Pre
  wz : N.cs.fr = 2 → (∀ b o, ¬ S0.foot b o) ∧ S0.wz
  dfs : N.its ≠ [] → Dfs w0 S0
/-- The marks that have come since. -/
def Marks (w0 : World) (S0 S1 : Base) : Prop := ∃ ms : List Nat, S1.dfs = ms.map mark ++ S0.dfs ∧ ∀ r ∈ ms, w0.heap.size ≤ r
theorem Marks.refl (w0 : World) (S0 : Base) : Marks w0 S0 S0 := ⟨[], rfl, by simp⟩
theorem Marks.trans {w0 w1 : World} {S0 S1 S2 : Base} (h : Marks w0 S0 S1) (hw : w0.heap.size ≤ w1.heap.size) (k : Marks w1 S1 S2) : Marks w0 S0 S2 := by
  obtain ⟨ms, h1, h2⟩ := h
  obtain ⟨ns, k1, k2⟩ := k
  refine ⟨ns ++ ms, by rw [k1, h1]; simp, fun r hr => ?_⟩
  rcases List.mem_append.1 hr with hr | hr
  · exact Nat.le_trans hw (k2 r hr)
  · exact h2 r hr
/-- What a piece of code may leave the base as. -/
structure Goes (N : En) (Φ : Nat → List D → D) (Pre : Nat → List D → Prop) (c : Code) (w0 : World) (S0 : Base) (w1 : World) (S1 : Base) : Prop where
  same : N.its = [] ∨ plainC c = true → w1 = w0 ∧ S1 = S0
  ext : Ext w0 S0 w1 S1
  env : VEnv N Φ Pre w1 S1
  marks : Marks w0 S0 S1
theorem Goes.refl {N : En} {Φ : Nat → List D → D} {Pre : Nat → List D → Prop} {c : Code} {w0 : World} {S0 : Base} (h : VEnv N Φ Pre w0 S0) : Goes N Φ Pre c w0 S0 w0 S0 := ⟨fun _ => ⟨rfl, rfl⟩, Ext.refl _ _, h, Marks.refl _ _⟩
theorem Goes.seq {N : En} {Φ : Nat → List D → D} {Pre : Nat → List D → Prop} {x y z : Code} {w0 w1 w2 : World} {S0 S1 S2 : Base} (hx : plainC z = true → plainC x = true) (hy : plainC z = true → plainC y = true) (h : Goes N Φ Pre x w0 S0 w1 S1) (k : Goes N Φ Pre y w1 S1 w2 S2) : Goes N Φ Pre z w0 S0 w2 S2 where
  same hc := by
    obtain ⟨rfl, rfl⟩ := h.same (hc.imp id hx)
    exact k.same (hc.imp id hy)
  ext := h.ext.trans k.ext
  env := k.env
  marks := h.marks.trans h.ext.below.size k.marks
theorem Goes.sub {N : En} {Φ : Nat → List D → D} {Pre : Nat → List D → Prop} {x z : Code} {w0 w1 : World} {S0 S1 : Base} (hx : plainC z = true → plainC x = true) (h : Goes N Φ Pre x w0 S0 w1 S1) : Goes N Φ Pre z w0 S0 w1 S1 := ⟨fun hc => h.same (hc.imp id hx), h.ext, h.env, h.marks⟩

theorem RoOk.sub {ro : Option Nat} {z c : Code} {Q Q' : Exit → Act → World → Prop} (h : RoOk ro z Q) (hp : plainC z = true → plainC c = true) (hq : ∀ a w, Q' .outgrown a w → Q .outgrown a w) : RoOk ro c Q' := fun hr => ⟨hp (h hr).1, fun a w hw => (h hr).2 a w (hq a w hw)⟩

section
variable {w0 : World} {S0 : Base} {C : Cx} {G : Gh} {σ : St} {a : Act} {w : World} {n : Nat}
theorem hasL_toL : ∀ {fs : Ty} {l : List D}, HasL fs l → HasL (.ofL fs.toL) l
  | .nil, _, h => h
  | .cons a b, l, h => by
    obtain ⟨x, r, rfl, hx, hr⟩ := has_cons.1 h
    exact has_cons.2 ⟨x, r, rfl, hx, hasL_toL hr⟩
  | .int _, _, h | .bool, _, h | .str, _, h | .list _, _, h | .agg _, _, h | .tup _, _, h | .box _, _, h | .ptr _, _, h | .fn _ _, _, h => h.elim
theorem cellSlots_noTmp {ex : Bool} {id : Nat} {owns : List (Nat × TypeId)} {t : Nat} {y : Ty × Option OwnK} : ∀ {cs : List SC} {i : Nat}, (Slot.tmp t, y) ∈ cellSlots ex id owns i cs → False
  | c :: r, i, h => by
    simp only [cellSlots] at h
    rcases List.mem_append.1 h with h | h
    · split at h <;> first
        | (simp at h; done)
        | (split at h <;> simp at h)
    · exact cellSlots_noTmp h
theorem boxSlots_noTmp {ex : Bool} {id : Nat} {σ : St} {owns : List (Nat × TypeId)} {t : Nat} {y : Ty × Option OwnK} (h : (Slot.tmp t, y) ∈ boxSlots ex σ owns id) : False := by
  unfold boxSlots at h
  split at h
  · rcases List.mem_append.1 h with h | h
    · exact cellSlots_noTmp h
    · obtain ⟨c, _, hc⟩ := List.mem_flatMap.1 h
      split at hc
      · split at hc
        · exact cellSlots_noTmp hc
        · simp at hc
      · simp at hc
  · simp at h
theorem rfEnt_form {σ : St} {x : Option (Cond × SV)} {c : Cond} {s : SV} (h : rfEnt σ x = some (c, s)) : c = [] ∧
    ((∃ e t, s = .one (.dat e t)) ∨ (∃ t, s = .one (.nils t)) ∨ (∃ id off, s = .one (.adr id off) ∧ (σ.hp id).isSome = true) ∨ ∃ id, s = .one (.mref id) ∧ (σ.hp id).isSome = true) := by
  unfold rfEnt at h
  split at h
  · injection h with h; simp only [Prod.mk.injEq] at h; exact ⟨h.1.symm, .inl ⟨_, _, h.2.symm⟩⟩
  · injection h with h; simp only [Prod.mk.injEq] at h; exact ⟨h.1.symm, .inr (.inl ⟨_, h.2.symm⟩)⟩
  · injection h with h; simp only [Prod.mk.injEq] at h; exact ⟨h.1.symm, .inl ⟨_, _, h.2.symm⟩⟩
  · split at h
    · rename_i hs
      injection h with h; simp only [Prod.mk.injEq] at h; exact ⟨h.1.symm, .inr (.inr (.inl ⟨_, _, h.2.symm, hs⟩))⟩
    · cases h
  · split at h
    · rename_i hs
      injection h with h; simp only [Prod.mk.injEq] at h; exact ⟨h.1.symm, .inr (.inr (.inr ⟨_, h.2.symm, hs⟩))⟩
    · cases h
  · cases h

theorem Sim.rf (h : Sim n w0 S0 C G σ a w) : Sim n w0 S0 C G (rfSt σ) a w := by
  refine ⟨h.m.congr rfl rfl, ?_, h.sz, h.defers⟩
  intro t c s hts
  have hts : rfEnt σ (σ.tm t) = some (c, s) := hts
  unfold rfEnt at hts
  split at hts
  · rename_i e ty hq
    injection hts with hts; simp only [Prod.mk.injEq] at hts; obtain ⟨rfl, rfl⟩ := hts
    exact h.t t _ _ hq
  · rename_i ty hq
    injection hts with hts; simp only [Prod.mk.injEq] at hts; obtain ⟨rfl, rfl⟩ := hts
    exact h.t t _ _ hq
  · rename_i g e ty hq
    injection hts with hts; simp only [Prod.mk.injEq] at hts; obtain ⟨rfl, rfl⟩ := hts
    obtain ⟨v, h1, h2, h3, h4⟩ := h.t t _ _ hq
    refine ⟨v, h1, h2, h3, ?_⟩
    simp only [condB, List.all_nil, if_true] at h4 ⊢
    exact ⟨h4.2.1, h4.2.2.1, h4.2.2.2.1⟩
  · rename_i id off hq
    split at hts
    · injection hts with hts; simp only [Prod.mk.injEq] at hts; obtain ⟨rfl, rfl⟩ := hts
      exact h.t t _ _ hq
    · cases hts
  · rename_i id hq
    split at hts
    · injection hts with hts; simp only [Prod.mk.injEq] at hts; obtain ⟨rfl, rfl⟩ := hts
      exact h.t t _ _ hq
    · cases hts
  · cases hts

theorem SimM.freezeX (h : SimM w0 S0 C G σ w) {g : Tag} {e : E} {T : TypeId} {t : Ty} (hg : σ.live g = some (e, T, t)) (hex : g.ex = true) (hsz : 0 < t.cells.length) (hnf : ¬ S0.fr) (hnw : ¬ S0.wz) :
    ∃ G', Later C w G C w G' ∧ SimM w0 S0 C G' { σ with live := fun g' => if g' = g then none else σ.live g' } w ∧ e.lt C.N = true ∧ Rep w G'.S (G.τ g) (den C.ρ e) ∧ Has (.list t) (den C.ρ e) := by
  have hok := h.own g e T t hg
  obtain ⟨xs, l, hd, hown, hS, hr⟩ := hok.own
  have hlat : Later C w G C w { G with S := fun b o => G.S b o ∨ ((G.τ g).ownBlock = some b ∧ o < xs.length) } :=
    ⟨fun _ h => ⟨rfl, h⟩, fun _ h => h, fun _ _ h => .inl h, fun _ _ _ => rfl, fun _ _ => rfl, fun _ _ => rfl⟩
  have hlive : ∀ {g' : Tag} {x : E × TypeId × Ty}, (if g' = g then none else σ.live g') = some x → g' ≠ g ∧ σ.live g' = some x := by
    intro g' x hx
    split at hx
    · cases hx
    · rename_i hne; exact ⟨hne, hx⟩
  refine ⟨{ G with S := fun b o => G.S b o ∨ ((G.τ g).ownBlock = some b ∧ o < xs.length) }, hlat, ?_, hok.lt, ?_, hok.has⟩
  · refine ⟨h.below, fun b o hs => .inl (h.foot0 b o hs), h.keep, h.pin, h.pinmu, ?_, ?_, h.boxM, ?_, h.inj, ?_, ?_, ?_, ?_, fun hf => absurd hf hnf, fun hz => absurd hz hnw⟩
    · rintro b o (hs | ⟨hb, _⟩)
      · exact h.footlt b o hs
      · exact (hok.lt_heap b hb).2
    · rintro b o (hs | ⟨hb, _⟩)
      · exact h.footnew b o hs
      · exact .inr (h.ownnew g _ b hg hb)
    · intro i ro' cs' hx
      obtain ⟨h1, h2, h3, h5⟩ := h.box i ro' cs' hx
      refine ⟨h1, h2, h3.later hlat rfl, ?_⟩
      cases ro' with
      | true => simp only [if_true] at h5 ⊢; exact fun o ho => .inl (h5 o ho)
      | false =>
        simp only [Bool.false_eq_true, if_false] at h5 ⊢
        rintro o (ho | ⟨he, _⟩)
        · exact h5 o ho
        · exact h.ownbox g i _ _ _ hg hx he rfl
    · intro g' e' T' t' hx
      obtain ⟨hne, hx⟩ := hlive hx
      refine (h.own g' e' T' t' hx).later hlat (fun _ _ => rfl) (fun b hb o hs => ?_)
      rcases hs with hs | ⟨hb', _⟩
      · exact hs
      · exact absurd (h.ownne g' g _ _ b hx hg hb hb') hne
    · intro g' x b hx hb
      exact h.ownnew g' x b (hlive hx).2 hb
    · intro g1 g2 x y b hx hy h1 h2
      exact h.ownne g1 g2 x y b (hlive hx).2 (hlive hy).2 h1 h2
    · intro g' i x y b hx hy hb
      exact h.ownbox g' i x y b (hlive hx).2 hy hb
  · rw [hd]
    obtain ⟨hl, hh⟩ := hown
    rcases hh with ⟨hv, hn⟩ | ⟨b, cap, cur, hv, hb, hgb, hnc, hcm, hcs, htake⟩
    · have : l = [] := List.eq_nil_of_length_eq_zero hn
      subst this
      rw [hv]; exact .nil none 0
    · have hhas := hok.has
      rw [hd] at hhas
      obtain ⟨l', hl', _, hx⟩ := has_list.1 hhas
      injection hl' with hl'; subst hl'
      by_cases hne : l = []
      · subst hne; rw [hv]; exact .nil _ cap
      · have hob : (G.τ g).ownBlock = some b := by rw [hv]; rfl
        rw [hv] at hob ⊢
        refine .list b 0 cap t.cells.length xs l hsz hne hnc hl (fun i hi => ?_) (fun i v hi => ?_) (fun i d hd' => ?_) (fun i d j v c h1 h2 h3 => (hr i d j v c h1 h2 h3).keep (fun _ _ h => .inl h) (fun _ _ _ => rfl))
        · rw [Nat.zero_add]; exact .inr ⟨hob, hi⟩
        · rw [Nat.zero_add, cell_of_row w b i cur T (0, 0) hgb]
          rw [← htake, List.getElem?_take] at hi
          split at hi
          · simpa using hi
          · cases hi
        · exact (has_cells (hx d (List.mem_of_getElem? hd'))).1
theorem Sim.frX1 (h : Sim n w0 S0 C G σ a w) (hnf : ¬ S0.fr) (hnw : ¬ S0.wz) (t : Nat) : ∃ G', Sim n w0 S0 C G' (frX1 σ t) a w := by
  unfold Eng.frX1
  split
  · rename_i g u ht
    split
    · rename_i e T u' hg
      split
      · rename_i hc
        obtain ⟨rfl, hex, hsz⟩ := hc
        obtain ⟨G', hlat, hm, hlt, hrep, hhas⟩ := h.m.freezeX hg hex hsz hnf hnw
        refine ⟨G', ⟨hm.congr rfl rfl, ?_, h.sz, h.defers⟩⟩
        have ht' := h.t.later hlat
        intro t' c s hq
        by_cases hti : t' = t
        · subst hti
          simp only [upd_same, Option.some.injEq, Prod.mk.injEq] at hq
          obtain ⟨rfl, rfl⟩ := hq
          obtain ⟨v, hv, _, _, hr⟩ := h.t t' _ _ ht
          have hcb : condB C.ρ ([] : Cond) = true := rfl
          rw [if_pos hcb] at hr
          refine ⟨v, hv, by simp, by simpa [SV.lt, SC.lt] using hlt, ?_⟩
          rw [if_pos hcb]
          refine ⟨hlt, ?_, hhas⟩
          rw [hr.2.1]; exact hrep
        · simp only [upd_ne _ _ hti] at hq
          exact ht' t' c s hq
      · exact ⟨G, h⟩
    · exact ⟨G, h⟩
  · exact ⟨G, h⟩
theorem Sim.frB1 (h : Sim n w0 S0 C G σ a w) (hnf : ¬ S0.fr) (hnw : ¬ S0.wz) (id i : Nat) : ∃ G', Sim n w0 S0 C G' (frB1 id σ i) a w := by
  unfold Eng.frB1
  split
  · rename_i cs hid
    split
    · rename_i g u hci
      split
      · rename_i e T u' hg
        split
        · rename_i hc
          obtain ⟨rfl, hex, hsz⟩ := hc
          obtain ⟨G', hlat, hm, hlt, hrep, hhas⟩ := h.m.freezeX hg hex hsz hnf hnw
          have hil : i < cs.length := (List.getElem?_eq_some_iff.1 hci).1
          have hnm : mapOf cs = none := by
            unfold mapOf
            split
            · rename_i e' kt T'
              have : i = 0 := by simpa using hil
              subst this
              cases hci
            · rfl
          have hnm' : mapOf (cs.set i (.dat e (.list u'))) = none := by
            unfold mapOf
            split
            · rename_i e' kt T' heq
              have hl := congrArg List.length heq
              simp at hl
              have : i = 0 := by omega
              subst this
              cases cs with
              | nil => simp at hil
              | cons c r => simp at heq
            · rfl
          have hid' : (⟨σ.tm, σ.hp, fun g' => if g' = g then none else σ.live g'⟩ : St).hp id = some (false, cs) := hid
          refine ⟨G', ⟨?_, h.t.later hlat, h.sz, h.defers⟩⟩
          have hpr : ∀ {j : Nat} {x : Bool × List SC}, upd σ.hp id (some (false, cs.set i (.dat e (.list u')))) j = some x → ∃ y, σ.hp j = some y := by
            intro j x hx
            by_cases hj : j = id
            · exact ⟨_, hj ▸ hid⟩
            · rw [upd_ne _ _ hj] at hx; exact ⟨_, hx⟩
          refine ⟨hm.below, hm.foot0, hm.keep, hm.pin, hm.pinmu, hm.footlt, hm.footnew, ?_, ?_, ?_, hm.own, hm.ownnew, hm.ownne, ?_, hm.fresh, hm.wz⟩
          · intro j x hx
            obtain ⟨y, hy⟩ := hpr hx
            exact hm.boxM j y hy
          · intro j ro' cs' hx
            by_cases hj : j = id
            · subst hj
              have hx : upd σ.hp j (some (false, cs.set i (.dat e (.list u')))) j = some (ro', cs') := hx
              simp only [upd_same, Option.some.injEq, Prod.mk.injEq] at hx
              obtain ⟨rfl, rfl⟩ := hx
              obtain ⟨b1, b2, b3, b4⟩ := hm.box j _ _ hid'
              obtain ⟨vs, Tb, hgb, hrc⟩ := b3.cells hnm
              refine ⟨b1, ?_, .mk hgb ⟨by rw [List.length_set]; exact hrc.1, fun k c v hc hv => ?_⟩, ?_⟩
              · rw [List.all_eq_true] at b2 ⊢
                intro x hx
                rcases List.mem_or_eq_of_mem_set hx with hx | rfl
                · exact b2 x hx
                · rfl
              · by_cases hk : k = i
                · subst hk
                  rw [List.getElem?_set_self hil] at hc
                  injection hc with hc; subst hc
                  obtain ⟨hM, hv', _⟩ := hrc.2 k _ v hci hv
                  have hτ : G'.τ g = G.τ g := hlat.τ g hM
                  exact ⟨hlt, by rw [hv', hτ]; exact hrep, hhas⟩
                · rw [List.getElem?_set_ne (fun e => hk e.symm)] at hc
                  exact hrc.2 k c v hc hv
              · simp only [Bool.false_eq_true, if_false] at b4 ⊢
                exact b4
            · have hx : σ.hp j = some (ro', cs') := by
                have hx : upd σ.hp id (some (false, cs.set i (.dat e (.list u')))) j = some (ro', cs') := hx
                rwa [upd_ne _ _ hj] at hx
              exact hm.box j ro' cs' hx
          · intro j k x y hx hy he
            obtain ⟨x', hx'⟩ := hpr hx
            obtain ⟨y', hy'⟩ := hpr hy
            exact hm.inj j k x' y' hx' hy' he
          · intro g' j x y b hx hy hb
            obtain ⟨y', hy'⟩ := hpr hy
            exact hm.ownbox g' j x y' b hx hy' hb
        · exact ⟨G, h⟩
      · exact ⟨G, h⟩
    · exact ⟨G, h⟩
  · exact ⟨G, h⟩
theorem Sim.frXl (hnf : ¬ S0.fr) (hnw : ¬ S0.wz) : ∀ (l : List Nat) {G : Gh} {σ : St}, Sim n w0 S0 C G σ a w → ∃ G', Sim n w0 S0 C G' (l.foldl Eng.frX1 σ) a w
  | [], G, _, h => ⟨G, h⟩
  | t :: l, _, _, h => by
    obtain ⟨G', h'⟩ := h.frX1 hnf hnw t
    exact Sim.frXl hnf hnw l h'
theorem Sim.frBl (hnf : ¬ S0.fr) (hnw : ¬ S0.wz) (id : Nat) : ∀ (l : List Nat) {G : Gh} {σ : St}, Sim n w0 S0 C G σ a w → ∃ G', Sim n w0 S0 C G' (l.foldl (Eng.frB1 id) σ) a w
  | [], G, _, h => ⟨G, h⟩
  | t :: l, _, _, h => by
    obtain ⟨G', h'⟩ := h.frB1 hnf hnw id t
    exact Sim.frBl hnf hnw id l h'
theorem Sim.frBt (h : Sim n w0 S0 C G σ a w) (hnf : ¬ S0.fr) (hnw : ¬ S0.wz) (t : Nat) : ∃ G', Sim n w0 S0 C G' (frBt σ t) a w := by
  unfold Eng.frBt
  split
  · split
    · exact Sim.frBl hnf hnw _ _ h
    · exact ⟨G, h⟩
  · exact ⟨G, h⟩
theorem Sim.frBtl (hnf : ¬ S0.fr) (hnw : ¬ S0.wz) : ∀ (l : List Nat) {G : Gh} {σ : St}, Sim n w0 S0 C G σ a w → ∃ G', Sim n w0 S0 C G' (l.foldl Eng.frBt σ) a w
  | [], G, _, h => ⟨G, h⟩
  | t :: l, _, _, h => by
    obtain ⟨G', h'⟩ := h.frBt hnf hnw t
    exact Sim.frBtl hnf hnw l h'
theorem Sim.frBs {N : En} (r : Nat) (h : Sim n w0 S0 C G σ a w) (hf : N.cs.fr = 0 → ¬ S0.fr ∧ ¬ S0.wz) : ∃ G', Sim n w0 S0 C G' (frBs N r σ) a w := by
  unfold Eng.frBs
  split
  · rename_i hq
    obtain ⟨h1, h2⟩ := hf (by simpa using hq)
    exact Sim.frBtl h1 h2 _ h
  · exact ⟨G, h⟩
theorem Sim.frXs {N : En} (ann : Ann) (h : Sim n w0 S0 C G σ a w) (hf : N.cs.fr = 0 → ¬ S0.fr ∧ ¬ S0.wz) : ∃ G', Sim n w0 S0 C G' (frXs N ann σ) a w := by
  unfold Eng.frXs
  split
  · rename_i hq
    obtain ⟨h1, h2⟩ := hf (by simpa using hq)
    exact Sim.frXl h1 h2 _ h
  · exact ⟨G, h⟩

theorem rep_plain {w : World} {S : Foot} {v : Value} {d : D} {t : Ty} (hb : (t.cells.all Ty.bare) = true) (ht : Has t d) (h : Rep w S v d) : ∀ (w' : World) (S' : Foot), Rep w' S' v d := by
  intro w' S'
  by_cases ha : ∃ fs, t = .agg fs
  · obtain ⟨fs, rfl⟩ := ha
    obtain ⟨l, rfl, hl⟩ := has_agg.1 ht
    obtain ⟨cs, rfl, h2, h3⟩ := h.inv_agg
    refine .agg cs l h2 fun i u d hu hd => ?_
    have hil : i < fs.toL.length := by rw [← hasL_len hl]; exact (List.getElem?_eq_some_iff.1 hd).1
    obtain ⟨x, hx, hxt⟩ := hasL_get hl i _ (List.getElem?_eq_getElem hil)
    rw [hd] at hx; injection hx with hx; subst hx
    exact rep_bare (List.all_eq_true.1 hb _ (List.getElem_mem hil)) hxt (h3 i u d hu hd)
  · have hc : t.cells = [t] := by cases t <;> first | rfl | exact absurd ⟨_, rfl⟩ ha
    rw [hc] at hb
    exact rep_bare (by simpa using hb) ht h

/-- The temporaries that are kept, where what they lean on, and where boxes lie, is as it was. -/
theorem rfTm_later {C' : Cx} {w' : World} {G' : Gh} {tm : Nat → Option (Cond × SV)} {p : Nat} (ht : SimT C w G tm a) (hform : ∀ t c s, tm t = some (c, s) → c = [] ∧ s.lt p = true ∧
      ((∃ e t, s = .one (.dat e t)) ∨ (∃ t, s = .one (.nils t)) ∨ (∃ id off, s = .one (.adr id off) ∧ id < p ∧ G'.β id = G.β id) ∨ ∃ id, s = .one (.mref id) ∧ id < p ∧ G'.β id = G.β id))
    (hρ : ∀ i, i < p → C'.ρ i = C.ρ i) (hN : p ≤ C'.N) (hM : ∀ i, i < p → C'.M i) (hS : ∀ b o, G.S b o → G'.S b o) (hc : ∀ b o, G.S b o → w'.cell? ⟨b, o, none⟩ = w.cell? ⟨b, o, none⟩) : SimT C' w' G' tm a := by
  intro t c s hts
  obtain ⟨v, h1, h2, h3, h4⟩ := ht t c s hts
  obtain ⟨rfl, hlt, hf⟩ := hform t c s hts
  simp only [condB, List.all_nil, if_true] at h4
  refine ⟨v, h1, by simp, ?_, by
    simp only [condB, List.all_nil, if_true]
    rcases hf with ⟨e, ty, rfl⟩ | ⟨ty, rfl⟩ | ⟨id, off, rfl, hid, hβ⟩ | ⟨id, rfl, hid, hβ⟩
    · have hlt' : e.lt p = true := hlt
      have hd : den C'.ρ e = den C.ρ e := den_agree hρ hlt'
      exact ⟨E.lt_mono hN hlt', by rw [hd]; exact h4.2.1.keep hS hc, by rw [hd]; exact h4.2.2⟩
    · exact h4
    · exact ⟨hM id hid, by rw [hβ]; exact h4.2⟩
    · exact ⟨hM id hid, by rw [hβ]; exact h4.2⟩⟩
  rcases hf with ⟨e, ty, rfl⟩ | ⟨ty, rfl⟩ | ⟨id, off, rfl, hid, hβ⟩ | ⟨id, rfl, hid, hβ⟩
  · exact E.lt_mono hN hlt
  · rfl
  · rfl
  · rfl
end

/-- A body's condition is enough. -/
theorem vc_soundX {N : En} {Φ : Nat → List D → D} {Pre : Nat → List D → Prop} {R : D → Prop} (hmix : N.P.follows .mixedOrders = true) (hcon : ∀ k sig, lk N.cs.l k = some sig → PureFn N.P k sig (Pre k) (Φ k))
    (hfw : ∀ k y, lk N.fw k = some y → FreshFn N.P k y.1 y.2 (fun _ => True) (Φ k)) (hwl : ∀ k y, lk N.wl k = some y → WildFn N.P k y.1 y.2) (hits : ∀ k y, lk N.its k = some y → IterFn N.P k y.1 y.2 (Pre k) (Φ k)) :
    ∀ (c : Code) (ro : Option Nat) (k : Ex → St → Nat → Nat → VC) (σ : St) (p d : Nat) (ρ : Nat → D) (stk : List (List D → Prop)) (Q : Exit → Act → World → Prop) (w0 : World) (S0 : Base), VEnv N Φ Pre w0 S0 → RoOk ro c Q →
    (vc N c k σ p d).holds Φ Pre R ρ stk → stk.length = d → (∀ i b, S0.pin i = some b → i < p) →
    (∀ w1 S1, Goes N Φ Pre c w0 S0 w1 S1 → ∀ ex σ' p' d' ρ' stk' a w G, (∀ i b, S1.pin i = some b → i < p') → p ≤ p' → (∀ i, i < p → ρ' i = ρ i) → stk'.length = d' → (∃ l, stk' = l ++ stk) → (k ex σ' p' d').holds Φ Pre R ρ' stk' → Sim N.n w1 S1 ⟨ρ', p', fun i => i < p'⟩ G σ' a w → Q ex.to a w) →
    ∀ a w G, Sim N.n w0 S0 ⟨ρ, p, fun i => i < p⟩ G σ a w → WP ro N.P c Q a w := by
  intro c
  induction c with
  | skip => intro ro k σ p d ρ stk Q w0 S0 hV hro h hd hpin hk a w G hs; exact WP.skip (hk _ _ (Goes.refl hV) .normal _ _ _ _ _ a w G hpin (Nat.le_refl _) (fun _ _ => rfl) hd ⟨[], rfl⟩ h hs)
  | label l => intro ro k σ p d ρ stk Q w0 S0 hV hro h hd hpin hk a w G hs; exact WP.label (hk _ _ (Goes.refl hV) .normal _ _ _ _ _ a w G hpin (Nat.le_refl _) (fun _ _ => rfl) hd ⟨[], rfl⟩ h hs)
  | exit i => intro ro k σ p d ρ stk Q w0 S0 hV hro h hd hpin hk a w G hs; exact WP.exit (hk _ _ (Goes.refl hV) (.exit i) _ _ _ _ _ a w G hpin (Nat.le_refl _) (fun _ _ => rfl) hd ⟨[], rfl⟩ h hs)
  | ret => intro ro k σ p d ρ stk Q w0 S0 hV hro h hd hpin hk a w G hs; exact WP.ret (hk _ _ (Goes.refl hV) .ret _ _ _ _ _ a w G hpin (Nat.le_refl _) (fun _ _ => rfl) hd ⟨[], rfl⟩ h hs)
  | region id ops draw =>
    intro ro k σ p d ρ stk Q w0 S0 hV hro h hd hpin hk a w G hs
    have hfl := hV.fl
    have hcf := hV.cf
    have hwz := hV.wz
    replace hk : ∀ ex σ' p' d' ρ' stk' a w G, p ≤ p' → (∀ i, i < p → ρ' i = ρ i) → stk'.length = d' → (∃ l, stk' = l ++ stk) → (k ex σ' p' d').holds Φ Pre R ρ' stk' → Sim N.n w0 S0 ⟨ρ', p', fun i => i < p'⟩ G σ' a w → Q ex.to a w :=
      fun ex σ' p' d' ρ' stk' a w G hp => hk w0 S0 (Goes.refl hV) ex σ' p' d' ρ' stk' a w G (fun i b hi => Nat.lt_of_lt_of_le (hpin i b hi) hp) hp
    simp only [vc] at h
    obtain ⟨G, hs⟩ := hs.frBs (N := N) id (fun hz => ⟨fun hf => by have := hV.cf.1 hf; omega, fun hf => by have := hV.cf.2 hf; omega⟩)
    generalize frBs N id σ = σ at h hs
    split at h
    · rename_i c hx
      obtain ⟨rfl, hcl⟩ := tailIdx_ok hx
      simp only [if_true] at hcl
      obtain ⟨ρ1, r1, σ1, hag1, hruns1, hmap1, hits1, hf1⟩ := regGo_hold (MM := fun i => i < p) c 0 [] σ ρ h (by omega)
      rw [Nat.add_zero] at hag1
      split at hf1
      · rename_i t e hxo
        rw [Option.bind_eq_some_iff] at hxo
        obtain ⟨o, ho, hxo⟩ := hxo
        split at hf1
        · rename_i hdst
          simp only [dstsB] at hdst
          have hdst' : ∀ (i : Nat) (o : Oper) (dd : Nat), ops[i]? = some o → o.dst = some dd → dd < N.n := fun i o dd ho hod => by
            have := List.all_eq_true.1 hdst o (by simpa using Array.mem_of_getElem? ho)
            rw [hod] at this; simpa using this
          have hr1 : ∀ y ∈ r1, y.1 < c := fun y hy => by
            have : y.1 ∈ List.range' 0 c := by rw [← hmap1]; exact List.mem_map.2 ⟨y, hy, rfl⟩
            rw [List.mem_range'_1] at this; omega
          have hlat1 : Later ⟨ρ, p, fun i => i < p⟩ w G ⟨ρ1, p + c, fun i => i < p⟩ w G :=
            ⟨fun e he => ⟨den_agree hag1 he, E.lt_mono (Nat.le_add_right _ _) he⟩, fun _ h => h, fun _ _ h => h, fun _ _ _ => rfl, fun _ _ => rfl, fun _ _ => rfl⟩
          have hok1 : RunOk N.P N.cs ops p N.n S0 ⟨ρ1, p + c, fun i => i < p⟩ Φ Pre r1 :=
            ⟨hcon, hits1, fun y hy => by have := hr1 y hy; show p + y.1 < p + c; omega, hdst', hcf⟩
          refine WP.region hro ?_
          have hsplit : List.range ops.size = r1.map (·.1) ++ List.range' c (ops.size - c) := by
            rw [hmap1, List.range_eq_range']
            have h2 := List.range'_append_1 (s := 0) (m := c) (n := ops.size - c)
            rw [Nat.zero_add] at h2
            rw [h2]; congr 1; omega
          rw [hsplit]
          refine wpOps_runs_rest _ hruns1 hok1 (hs.later_same hlat1) (by rw [hmap1]; exact List.nodup_range') (fun y hy h => by
            have h' : p + y.1 < p := h
            omega) ?_
          intro a1 w1 G1 M1 hM1 hs1
          have hs1' := hs1.later_same (Later.moreM ⟨ρ1, p + c, M1⟩ w1 G1 (M' := fun i => i < p + c) (fun i hi => by
            rcases hM1 i hi with h | ⟨y, hy, rfl⟩
            · have h' : i < p := h
              show i < p + c; omega
            · have := hr1 y hy; show p + y.1 < p + c; omega))
          have hone : List.range' c (ops.size - c) = [c] := by rw [show ops.size - c = 1 by omega]; rfl
          rw [hone]
          obtain ⟨g1, g2⟩ := hf1
          have hdl : (den ρ1 (.bin .eq (.un .len e) (.kint .i64 0))).toB = decide ((den ρ1 e).toL.length = 0) := by
            show ((((den ρ1 e).toL.length : Nat) : Int) == 0) = _
            rw [Bool.eq_iff_iff]; simp
          refine nqOp_ok ho hxo hs1' Q [] (fun hl0 b a2 hs2 => ?_) (fun hl0 a2 hs2 => ?_)
          · have h3 := g1 (by rw [hdl]; exact decide_eq_true hl0) (.bool b) (has_bool.2 ⟨_, rfl⟩)
            have e1 : p + c + 1 = p + ops.size := by omega
            rw [e1] at hs2
            exact hk .normal _ (p + ops.size) d _ stk a2 w1 G1 (Nat.le_add_right _ _) (fun i hi => (upd_ne _ _ (by omega)).trans (hag1 i hi)) hd ⟨[], rfl⟩ h3 hs2
          · have h3 := g2 (by rw [hdl]; exact decide_eq_false hl0) (.bool false) (has_bool.2 ⟨_, rfl⟩)
            have e1 : p + c + 1 = p + ops.size := by omega
            rw [e1] at hs2
            exact hk .normal _ (p + ops.size) d _ stk a2 w1 G1 (Nat.le_add_right _ _) (fun i hi => (upd_ne _ _ (by omega)).trans (hag1 i hi)) hd ⟨[], rfl⟩ h3 hs2
        · exact hf1.elim
      · exact hf1.elim
    · rename_i c hx
      obtain ⟨rfl, hcl, hfr2⟩ := tailIdx_ok hx
      obtain ⟨hnofoot, hwz'⟩ := hwz hfr2
      have hnf : ¬ S0.fr := fun hff => by have := hcf.1 hff; omega
      obtain ⟨ρ1, r1, σ1, hag1, hruns1, hmap1, hits1, hf1⟩ := regGo_hold (MM := fun i => i < p) c 0 [] σ ρ h (by omega)
      rw [Nat.add_zero] at hag1
      split at hf1
      · rename_i o1 o2 ho1 ho2
        split at hf1
        · rename_i x hxo
          split at hf1
          · rename_i hdst
            simp only [dstsB] at hdst
            have hdst' : ∀ (i : Nat) (o : Oper) (dd : Nat), ops[i]? = some o → o.dst = some dd → dd < N.n := fun i o dd ho hod => by
              have := List.all_eq_true.1 hdst o (by simpa using Array.mem_of_getElem? ho)
              rw [hod] at this; simpa using this
            have hr1 : ∀ y ∈ r1, y.1 < c := fun y hy => by
              have : y.1 ∈ List.range' 0 c := by rw [← hmap1]; exact List.mem_map.2 ⟨y, hy, rfl⟩
              rw [List.mem_range'_1] at this; omega
            have hlat1 : Later ⟨ρ, p, fun i => i < p⟩ w G ⟨ρ1, p + c, fun i => i < p⟩ w G :=
              ⟨fun e he => ⟨den_agree hag1 he, E.lt_mono (Nat.le_add_right _ _) he⟩, fun _ h => h, fun _ _ h => h, fun _ _ _ => rfl, fun _ _ => rfl, fun _ _ => rfl⟩
            have hok1 : RunOk N.P N.cs ops p N.n S0 ⟨ρ1, p + c, fun i => i < p⟩ Φ Pre r1 :=
              ⟨hcon, hits1, fun y hy => by have := hr1 y hy; show p + y.1 < p + c; omega, hdst', hcf⟩
            refine WP.region hro ?_
            have hsplit : List.range ops.size = r1.map (·.1) ++ List.range' c (ops.size - c) := by
              rw [hmap1, List.range_eq_range']
              have h2 := List.range'_append_1 (s := 0) (m := c) (n := ops.size - c)
              rw [Nat.zero_add] at h2
              rw [h2]; congr 1; omega
            rw [hsplit]
            refine wpOps_runs_rest _ hruns1 hok1 (hs.later_same hlat1) (by rw [hmap1]; exact List.nodup_range') (fun y hy h => by
              have h' : p + y.1 < p := h
              omega) ?_
            intro a1 w1 G1 M1 hM1 hs1
            have hs1' := hs1.later_same (Later.moreM ⟨ρ1, p + c, M1⟩ w1 G1 (M' := fun i => i < p + c) (fun i hi => by
              rcases hM1 i hi with h | ⟨y, hy, rfl⟩
              · have h' : i < p := h
                show i < p + c; omega
              · have := hr1 y hy; show p + y.1 < p + c; omega))

            have hone : List.range' c (ops.size - c) = [c, c + 1] := by rw [show ops.size - c = 2 by omega]; rfl
            rw [hone]
            refine wsOp_ok ho1 ho2 hxo hs1' hwl hnofoot hnf hwz' [] Q (fun dd a2 w2 G2 hhd hs2 => ?_)
            have h3 := hf1 dd hhd
            have hlat3 : Later ⟨upd ρ1 (p + c) dd, p + c + 1, fun i => i < p + c + 1⟩ w2 G2 ⟨upd ρ1 (p + c) dd, p + ops.size, fun i => i < p + ops.size⟩ w2 G2 :=
              ⟨fun e he => ⟨rfl, E.lt_mono (by show p + c + 1 ≤ p + ops.size; omega) he⟩, fun i hi => by
                have hi' : i < p + c + 1 := hi
                show i < p + ops.size; omega, fun _ _ h => h, fun _ _ _ => rfl, fun _ _ => rfl, fun _ _ => rfl⟩
            exact hk .normal _ (p + ops.size) d _ stk a2 w2 G2 (Nat.le_add_right _ _) (fun i hi => (upd_ne _ _ (by omega)).trans (hag1 i hi)) hd ⟨[], rfl⟩ h3 (hs2.later_same hlat3)
          · exact hf1.elim
        · exact hf1.elim
      · exact hf1.elim
    split at h
    · rename_i hwe
      simp only [Bool.and_eq_true, beq_iff_eq] at hwe
      obtain ⟨hfr2, hwe⟩ := hwe
      have hpos : 0 < ops.size := by
        unfold wildEnd at hwe
        simp only [Bool.and_eq_true, decide_eq_true_eq] at hwe
        exact hwe.1
      obtain ⟨hnofoot, hwz'⟩ := hwz hfr2
      have hnf : ¬ S0.fr := fun hff => by have := hcf.1 hff; omega
      obtain ⟨ρ1, r1, σ1, hag1, hruns1, hmap1, hits1, hf1⟩ := regGo_hold (MM := fun i => i < p) (ops.size - 1) 0 [] σ ρ h (by omega)
      rw [Nat.add_zero] at hag1
      rw [List.nil_append] at hf1
      split at hf1
      · rename_i o ho
        split at hf1
        · rename_i hc
          simp only [Bool.and_eq_true] at hc
          obtain ⟨⟨hhv, hdraw⟩, hdst⟩ := hc
          have hdst' : ∀ (i : Nat) (o : Oper) (dd : Nat), ops[i]? = some o → o.dst = some dd → dd < N.n := fun i o dd ho hod => by
            have := List.all_eq_true.1 hdst o (by simpa using Array.mem_of_getElem? ho)
            rw [hod] at this; simpa using this
          have hr1 : ∀ y ∈ r1, y.1 < ops.size - 1 := fun y hy => by
            have : y.1 ∈ List.range' 0 (ops.size - 1) := by rw [← hmap1]; exact List.mem_map.2 ⟨y, hy, rfl⟩
            rw [List.mem_range'_1] at this; omega
          have hlat1 : Later ⟨ρ, p, fun i => i < p⟩ w G ⟨ρ1, p + (ops.size - 1), fun i => i < p⟩ w G :=
            ⟨fun e he => ⟨den_agree hag1 he, E.lt_mono (Nat.le_add_right _ _) he⟩, fun _ h => h, fun _ _ h => h, fun _ _ _ => rfl, fun _ _ => rfl, fun _ _ => rfl⟩
          have hok1 : RunOk N.P N.cs ops p N.n S0 ⟨ρ1, p + (ops.size - 1), fun i => i < p⟩ Φ Pre r1 :=
            ⟨hcon, hits1, fun y hy => by have := hr1 y hy; show p + y.1 < p + (ops.size - 1); omega, hdst', hcf⟩
          have hMr : ∀ y ∈ r1, ¬ (fun i => i < p) (p + y.1) := fun y _ h => by
            have h' : p + y.1 < p := h
            omega
          have hnd : (r1.map (·.1)).Nodup := by rw [hmap1]; exact List.nodup_range'
          have fin : ∀ a1 w1 G1 M1, (∀ i, M1 i → i < p ∨ ∃ y ∈ r1, i = p + y.1) → Sim N.n w0 S0 ⟨ρ1, p + (ops.size - 1), M1⟩ G1 σ1 a1 w1 → ∀ next : Act → World → Prop, (∀ a2 w2, Q .normal a2 w2 → next a2 w2) → Region.wanted o (yielded ops a1.tmps) = true ∧ o.wp N.P a1 w1 next Q := by
            intro a1 w1 G1 M1 hM1 hs1 next hnext
            have hs1' := hs1.later_same (Later.moreM ⟨ρ1, p + (ops.size - 1), M1⟩ w1 G1 (M' := fun i => i < p + (ops.size - 1)) (fun i hi => by
              rcases hM1 i hi with h | ⟨y, hy, rfl⟩
              · show i < p + (ops.size - 1); omega
              · have := hr1 y hy; show p + y.1 < p + (ops.size - 1); omega))
            refine hvOp_ok hhv hs1' hnofoot hnf hwz' next Q (fun x w2 hx hs2 => hnext a1 w2 ?_)
            have hs3 : Sim N.n w0 S0 ⟨upd ρ1 (p + (ops.size - 1)) x, p + ops.size, fun i => i < p + ops.size⟩ G1 (hvSt σ1 (p + (ops.size - 1))) a1 w2 := by
              have e : p + (ops.size - 1) + 1 = p + ops.size := by omega
              rw [e] at hs2; exact hs2
            exact hk .normal _ (p + ops.size) d _ stk a1 w2 G1 (Nat.le_add_right _ _) (fun i hi => (upd_ne _ _ (by omega)).trans (hag1 i hi)) hd ⟨[], rfl⟩ (hf1 x hx) hs3
          cases draw with
          | false =>
            refine WP.region hro ?_
            have hsplit : List.range ops.size = r1.map (·.1) ++ [ops.size - 1] := by
              rw [hmap1, List.range_eq_range']
              have h2 := List.range'_append_1 (s := 0) (m := ops.size - 1) (n := 1)
              rw [Nat.zero_add, show ops.size - 1 + 1 = ops.size by omega] at h2
              rw [← h2]; rfl
            rw [hsplit]
            refine wpOps_runs_rest _ hruns1 hok1 (hs.later_same hlat1) hnd hMr ?_
            intro a1 w1 G1 M1 hM1 hs1
            obtain ⟨hw, hwp⟩ := fin a1 w1 G1 M1 hM1 hs1 (wpOps N.P ops Q []) (fun _ _ h => h)
            simp only [wpOps, ho]
            rw [if_pos hw]
            exact .inl hwp
          | true =>
            simp only [Bool.not_true, Bool.false_or, Bool.and_eq_true] at hdraw
            obtain ⟨⟨hd1, hd2⟩, hd3⟩ := hdraw
            refine WP.region_any hro hmix ?_
            have hrl : r1.length = ops.size - 1 := by have := congrArg List.length hmap1; simpa using this
            refine wpAny_runs_last ho ops.size hruns1 hok1 (hs.later_same hlat1).drew hnd hMr hd1 (by simp) ?_ (by omega) ?_ ?_ hd2 fin
            · intro j o ho hj
              have hjl : j < ops.size := (Array.getElem?_eq_some_iff.1 ho).1
              simp [hjl] at hj
            · intro i hi
              rw [hmap1]
              simp only [List.mem_range'_1, Nat.zero_le, true_and, Nat.zero_add]
              constructor
              · intro _; omega
              · intro _; simp [hi]
            · intro y hy
              have hyl := hr1 y hy
              exact ⟨by omega, by omega, by
                have := List.all_eq_true.1 hd3 y.1 (List.mem_range.2 hyl)
                exact this⟩
        · exact hf1.elim
      · exact hf1.elim
    split at h
    · rename_i c hx
      obtain ⟨rfl, hncf, hcl⟩ := cpIdx_ok hx
      have hnf : ¬ S0.fr := fun hff => by have := hcf.1 hff; rw [hncf] at this; cases this
      have hnw : ¬ S0.wz := fun hff => by have := hcf.2 hff; rw [hncf] at this; cases this
      obtain ⟨ρ1, r1, σ1, hag1, hruns1, hmap1, hits1, hf1⟩ := regGo_hold (MM := fun i => i < p) c 0 [] σ ρ h (by omega)
      rw [Nat.add_zero] at hag1
      split at hf1
      · rename_i x hxo
        split at hf1
        · rename_i hc
          simp only [Bool.and_eq_true] at hc
          obtain ⟨hxl, hdst⟩ := hc
          obtain ⟨_, h2⟩ := hf1
          have h2' := h2 _ rfl
          have hdst' : ∀ (i : Nat) (o : Oper) (dd : Nat), ops[i]? = some o → o.dst = some dd → dd < N.n := fun i o dd ho hod => by
            have := List.all_eq_true.1 hdst o (by simpa using Array.mem_of_getElem? ho)
            rw [hod] at this; simpa using this
          have hr1 : ∀ y ∈ r1, y.1 < c := fun y hy => by
            have : y.1 ∈ List.range' 0 c := by rw [← hmap1]; exact List.mem_map.2 ⟨y, hy, rfl⟩
            rw [List.mem_range'_1] at this; omega
          have hlat1 : Later ⟨ρ, p, fun i => i < p⟩ w G ⟨ρ1, p + c, fun i => i < p⟩ w G :=
            ⟨fun e he => ⟨den_agree hag1 he, E.lt_mono (Nat.le_add_right _ _) he⟩, fun _ h => h, fun _ _ h => h, fun _ _ _ => rfl, fun _ _ => rfl, fun _ _ => rfl⟩
          have hok1 : RunOk N.P N.cs ops p N.n S0 ⟨ρ1, p + c, fun i => i < p⟩ Φ Pre r1 :=
            ⟨hcon, hits1, fun y hy => by have := hr1 y hy; show p + y.1 < p + c; omega, hdst', hcf⟩
          refine WP.region hro ?_
          have hsplit : List.range ops.size = r1.map (·.1) ++ (c :: (c + 1) :: (c + 2) :: List.range' (c + 3) (ops.size - (c + 3))) := by
            rw [hmap1, List.range_eq_range']
            have h1 : c :: (c + 1) :: (c + 2) :: List.range' (c + 3) (ops.size - (c + 3)) = List.range' c (ops.size - (c + 3) + 1 + 1 + 1) := by rw [List.range'_succ, List.range'_succ, List.range'_succ]
            have h2 := List.range'_append_1 (s := 0) (m := c) (n := ops.size - (c + 3) + 1 + 1 + 1)
            rw [Nat.zero_add] at h2
            rw [h1, h2]
            congr 1; omega
          rw [hsplit]
          refine wpOps_runs_rest _ hruns1 hok1 (hs.later_same hlat1) (by rw [hmap1]; exact List.nodup_range') (fun y hy h => by
            have h' : p + y.1 < p := h
            omega) ?_
          intro a1 w1 G1 M1 hM1 hs1
          have hs1' := hs1.later_same (Later.moreM ⟨ρ1, p + c, M1⟩ w1 G1 (M' := fun i => i < p + c) (fun i hi => by
            rcases hM1 i hi with h | ⟨y, hy, rfl⟩
            · have h' : i < p := h
              show i < p + c; omega
            · have := hr1 y hy; show p + y.1 < p + c; omega))
          refine cpOp_ok hxo hs1' hfw hwl hnf hnw (Φ x.k1 (den ρ1 x.args).toL) _ Q (fun d2 a2 w2 G2 hhd hs2 => ?_)
          have h3 := h2' d2 hhd
          obtain ⟨ρ2, r2, σ2, hag2, hruns2, hmap2, hits2, hf2⟩ := regGo_hold (MM := fun i => i < p + c + 3) (ops.size - (c + 3)) (c + 3) [] _ _ h3 (by omega)
          have hr2 : ∀ y ∈ r2, c + 3 ≤ y.1 ∧ y.1 < ops.size := fun y hy => by
            have : y.1 ∈ List.range' (c + 3) (ops.size - (c + 3)) := by rw [← hmap2]; exact List.mem_map.2 ⟨y, hy, rfl⟩
            rw [List.mem_range'_1] at this; omega
          rw [← hmap2, ← List.append_nil (r2.map (·.1))]
          have hlat2 : Later ⟨upd (upd ρ1 (p + c) (Φ x.k1 (den ρ1 x.args).toL)) (p + c + 2) d2, p + c + 3, fun i => i < p + c + 3⟩ w2 G2 ⟨ρ2, p + ops.size, fun i => i < p + c + 3⟩ w2 G2 :=
            ⟨fun e he => ⟨den_agree (fun i hi => hag2 i (by show i < p + (c + 3); have : i < p + c + 3 := hi; omega)) he, E.lt_mono (by show p + c + 3 ≤ p + ops.size; omega) he⟩, fun _ h => h, fun _ _ h => h, fun _ _ _ => rfl, fun _ _ => rfl, fun _ _ => rfl⟩
          have hok2 : RunOk N.P N.cs ops p N.n S0 ⟨ρ2, p + ops.size, fun i => i < p + c + 3⟩ Φ Pre r2 :=
            ⟨hcon, hits2, fun y hy => by have := hr2 y hy; show p + y.1 < p + ops.size; omega, hdst', hcf⟩
          refine wpOps_runs_rest _ hruns2 hok2 (hs2.later_same hlat2) (by rw [hmap2]; exact List.nodup_range') (fun y hy h => by
            have h' : p + y.1 < p + c + 3 := h
            have := hr2 y hy
            omega) ?_
          intro a3 w3 G3 M3 hM3 hs3
          have hs3' := hs3.later_same (Later.moreM ⟨ρ2, p + ops.size, M3⟩ w3 G3 (M' := fun i => i < p + ops.size) (fun i hi => by
            rcases hM3 i hi with h | ⟨y, hy, rfl⟩
            · have h' : i < p + c + 3 := h
              show i < p + ops.size; omega
            · have := hr2 y hy; show p + y.1 < p + ops.size; omega))
          show Q .normal a3 w3
          refine hk .normal σ2 (p + ops.size) d ρ2 stk a3 w3 G3 (Nat.le_add_right _ _) (fun i hi => ?_) hd ⟨[], rfl⟩ hf2 hs3'
          rw [hag2 i (by omega), upd_ne _ _ (by omega), upd_ne _ _ (by omega), hag1 i hi]
        · exact hf1.elim
      · exact hf1.elim
    split at h
    · rename_i c hx
      obtain ⟨rfl, hncf, hcl⟩ := plIdx_ok hx
      have hnf : ¬ S0.fr := fun hff => by have := hcf.1 hff; rw [hncf] at this; cases this
      have hnw : ¬ S0.wz := fun hff => by have := hcf.2 hff; rw [hncf] at this; cases this
      obtain ⟨ρ1, r1, σ1, hag1, hruns1, hmap1, hits1, hf1⟩ := regGo_hold (MM := fun i => i < p) c 0 [] σ ρ h (by omega)
      rw [Nat.add_zero] at hag1
      split at hf1
      · rename_i x hxo
        rw [Option.bind_eq_some_iff] at hxo
        obtain ⟨o, ho, hxo⟩ := hxo
        split at hf1
        · rename_i hc
          simp only [Bool.and_eq_true] at hc
          obtain ⟨hxl, hdst⟩ := hc
          obtain ⟨hpre, h2⟩ := hf1
          have hpre' : Pre x.k [den ρ1 x.e] := hpre rfl
          have h2' := h2 _ rfl
          obtain ⟨ρ2, r2, σ2, hag2, hruns2, hmap2, hits2, hf2⟩ := regGo_hold (MM := fun i => i < p + c + 1) (ops.size - (c + 1)) (c + 1) [] _ _ h2' (by omega)
          have hdst' : ∀ (i : Nat) (o : Oper) (dd : Nat), ops[i]? = some o → o.dst = some dd → dd < N.n := fun i o dd ho hod => by
            have := List.all_eq_true.1 hdst o (by simpa using Array.mem_of_getElem? ho)
            rw [hod] at this; simpa using this
          have hr1 : ∀ y ∈ r1, y.1 < c := fun y hy => by
            have : y.1 ∈ List.range' 0 c := by rw [← hmap1]; exact List.mem_map.2 ⟨y, hy, rfl⟩
            rw [List.mem_range'_1] at this; omega
          have hr2 : ∀ y ∈ r2, c + 1 ≤ y.1 ∧ y.1 < ops.size := fun y hy => by
            have : y.1 ∈ List.range' (c + 1) (ops.size - (c + 1)) := by rw [← hmap2]; exact List.mem_map.2 ⟨y, hy, rfl⟩
            rw [List.mem_range'_1] at this; omega
          have hlat1 : Later ⟨ρ, p, fun i => i < p⟩ w G ⟨ρ1, p + c, fun i => i < p⟩ w G :=
            ⟨fun e he => ⟨den_agree hag1 he, E.lt_mono (Nat.le_add_right _ _) he⟩, fun _ h => h, fun _ _ h => h, fun _ _ _ => rfl, fun _ _ => rfl, fun _ _ => rfl⟩
          have hok1 : RunOk N.P N.cs ops p N.n S0 ⟨ρ1, p + c, fun i => i < p⟩ Φ Pre r1 :=
            ⟨hcon, hits1, fun y hy => by have := hr1 y hy; show p + y.1 < p + c; omega, hdst', hcf⟩
          refine WP.region hro ?_
          have hsplit : List.range ops.size = r1.map (·.1) ++ (c :: (r2.map (·.1) ++ [])) := by
            rw [hmap1, hmap2, List.append_nil, List.range_eq_range']
            have h1 : c :: List.range' (c + 1) (ops.size - (c + 1)) = List.range' c (ops.size - (c + 1) + 1) := List.range'_succ.symm
            have h2 := List.range'_append_1 (s := 0) (m := c) (n := ops.size - (c + 1) + 1)
            rw [Nat.zero_add] at h2
            rw [h1, h2]
            congr 1; omega
          rw [hsplit]
          refine wpOps_runs_rest _ hruns1 hok1 (hs.later_same hlat1) (by rw [hmap1]; exact List.nodup_range') (fun y hy h => by
            have h' : p + y.1 < p := h
            omega) ?_
          intro a1 w1 G1 M1 hM1 hs1
          have hs1' := hs1.later_same (Later.moreM ⟨ρ1, p + c, M1⟩ w1 G1 (M' := fun i => i < p + c) (fun i hi => by
            rcases hM1 i hi with h | ⟨y, hy, rfl⟩
            · have h' : i < p := h
              show i < p + c; omega
            · have := hr1 y hy; show p + y.1 < p + c; omega))
          have hstep := opPl_ok (ops := ops) hxo hcon hs1' hpre' hfl hnf hnw (wpOps N.P ops Q (r2.map (·.1) ++ [])) Q (fun a2 w2 G2 hs2 => by
            have hlat2 : Later ⟨upd ρ1 (p + c) (Φ x.k [den ρ1 x.e]), p + c + 1, fun i => i < p + c + 1⟩ w2 G2 ⟨ρ2, p + ops.size, fun i => i < p + c + 1⟩ w2 G2 :=
              ⟨fun e he => ⟨den_agree (fun i hi => hag2 i (by show i < p + (c + 1); have : i < p + c + 1 := hi; omega)) he, E.lt_mono (by show p + c + 1 ≤ p + ops.size; omega) he⟩, fun _ h => h, fun _ _ h => h, fun _ _ _ => rfl, fun _ _ => rfl, fun _ _ => rfl⟩
            have hok2 : RunOk N.P N.cs ops p N.n S0 ⟨ρ2, p + ops.size, fun i => i < p + c + 1⟩ Φ Pre r2 :=
              ⟨hcon, hits2, fun y hy => by have := hr2 y hy; show p + y.1 < p + ops.size; omega, hdst', hcf⟩
            refine wpOps_runs_rest _ hruns2 hok2 (hs2.later_same hlat2) (by rw [hmap2]; exact List.nodup_range') (fun y hy h => by
              have h' : p + y.1 < p + c + 1 := h
              have := hr2 y hy
              omega) ?_
            intro a3 w3 G3 M3 hM3 hs3
            have hs3' := hs3.later_same (Later.moreM ⟨ρ2, p + ops.size, M3⟩ w3 G3 (M' := fun i => i < p + ops.size) (fun i hi => by
              rcases hM3 i hi with h | ⟨y, hy, rfl⟩
              · have h' : i < p + c + 1 := h
                show i < p + ops.size; omega
              · have := hr2 y hy; show p + y.1 < p + ops.size; omega))
            show Q .normal a3 w3
            refine hk .normal σ2 (p + ops.size) d ρ2 stk a3 w3 G3 (Nat.le_add_right _ _) (fun i hi => ?_) hd ⟨[], rfl⟩ hf2 hs3'
            rw [hag2 i (by omega), upd_ne _ _ (by omega), hag1 i hi])
          simp only [wpOps, ho]
          rw [hstep.1, if_pos rfl]
          exact .inl hstep.2
        · exact hf1.elim
      · exact hf1.elim
    rw [List.range_eq_range'] at h
    obtain ⟨ρ', r, σ', hag0, hruns, hmap', hits, hf⟩ := regGo_hold (MM := fun i => i < p) ops.size 0 [] σ ρ h (by omega)
    have hag : ∀ i, i < p → ρ' i = ρ i := hag0
    have hmap : r.map (·.1) = List.range ops.size := by rw [List.range_eq_range']; exact hmap'
    rw [List.nil_append] at hf
    split at hf
    · rename_i hc
      · simp only [Bool.and_eq_true] at hc
        obtain ⟨hdraw, hdst⟩ := hc
        have hk' := hf
        have hrlt : ∀ x ∈ r, x.1 < ops.size := by
          intro x hx
          have : x.1 ∈ List.range ops.size := by rw [← hmap]; exact List.mem_map.2 ⟨x, hx, rfl⟩
          simpa using this
        have hlat : Later ⟨ρ, p, fun i => i < p⟩ w G ⟨ρ', p + ops.size, fun i => i < p⟩ w G :=
          ⟨fun e he => ⟨den_agree hag he, E.lt_mono (Nat.le_add_right _ _) he⟩, fun _ h => h, fun _ _ h => h, fun _ _ _ => rfl, fun _ _ => rfl, fun _ _ => rfl⟩
        have hs1 := hs.later_same hlat
        have hok : RunOk N.P N.cs ops p N.n S0 ⟨ρ', p + ops.size, fun i => i < p⟩ Φ Pre r :=
          ⟨hcon, hits,
            fun x hx => by have := hrlt x hx; show p + x.1 < p + ops.size; omega,
            fun i o d ho hod => by
              have := List.all_eq_true.1 hdst o (by simpa using Array.mem_of_getElem? ho)
              simpa [hod] using this, hcf⟩
        have hM : ∀ x ∈ r, ¬ (fun i => i < p) (p + x.1) := fun x _ h => by
          have h' : p + x.1 < p := h
          omega
        have hnd : (r.map (·.1)).Nodup := by rw [hmap]; exact List.nodup_range
        have fin : ∀ a' w' G' M', (∀ i, M' i → i < p ∨ ∃ x ∈ r, i = p + x.1) → Sim N.n w0 S0 ⟨ρ', p + ops.size, M'⟩ G' σ' a' w' → Q .normal a' w' := by
          intro a' w' G' M' hM' hs'
          have hs2 := hs'.later_same (Later.moreM ⟨ρ', p + ops.size, M'⟩ w' G' (M' := fun i => i < p + ops.size) (fun i hi => by
            rcases hM' i hi with h | ⟨x, hx, rfl⟩
            · show i < _; omega
            · have := hrlt x hx; show p + x.1 < _; omega))
          exact hk .normal σ' (p + ops.size) d ρ' stk a' w' G' (Nat.le_add_right _ _) hag hd ⟨[], rfl⟩ hk' hs2
        cases draw with
        | false =>
          refine WP.region hro ?_
          rw [← hmap]
          exact wpOps_runs hruns hok hs1 hnd hM fin
        | true =>
          simp only [Bool.not_true, Bool.false_or, Bool.and_eq_true] at hdraw
          refine WP.region_any hro hmix ?_
          have hrl : r.length = ops.size := by have := congrArg List.length hmap; simpa using this
          refine wpAny_runs ops.size hruns hok hs1.drew hnd hM hdraw.1 (by simp) ?_ (by omega) ?_ hrlt ?_ ?_ fin
          · intro j o ho hj
            have hjl : j < ops.size := (Array.getElem?_eq_some_iff.1 ho).1
            simp [hjl] at hj
          · intro i hi
            rw [hmap]; simp [hi]
          · intro hne
            exact back_ready hdraw.2 (by simp) (r := r.map (·.1)) (fun i hi => by rw [hmap]; simp [hi]) (by simpa using hne) (fun x hx => by obtain ⟨y, hy, rfl⟩ := List.mem_map.1 hx; exact hrlt y hy)
          · intro l r' h1 _ h3 h4 h5
            exact back_ready hdraw.2 h1 h3 (by simpa using h4) (fun x hx => by obtain ⟨y, hy, rfl⟩ := List.mem_map.1 hx; exact h5 y hy)
    · exact hf.elim
  | seq x y ihx ihy =>
    intro ro k σ p d ρ stk Q w0 S0 hV hro h hd hpin hk a w G hs
    have hpx : plainC (.seq x y) = true → plainC x = true := fun h => by simp only [plainC, Bool.and_eq_true] at h; exact h.1
    have hpy : plainC (.seq x y) = true → plainC y = true := fun h => by simp only [plainC, Bool.and_eq_true] at h; exact h.2
    refine WP.seq (ihx ro _ σ p d ρ stk (Exit.then (WP ro N.P y Q) Q) w0 S0 hV (hro.sub hpx (fun _ _ h => h)) h hd hpin ?_ a w G hs)
    intro w1 S1 hg ex σ' p' d' ρ' stk' a' w' G' hpin' hp hρ hl ⟨l, hstk⟩ hkk hs'
    cases ex with
    | normal =>
      refine ihy ro k σ' p' d' ρ' stk' Q w1 S1 hg.env (hro.sub hpy (fun _ _ h => h)) hkk hl hpin' ?_ a' w' G' hs'
      intro w2 S2 hg2 ex2 σ2 p2 d2 ρ2 stk2 a2 w2' G2 hpin2 hp2 hρ2 hl2 ⟨l2, hstk2⟩ hk2 hs2
      exact hk w2 S2 (hg.seq hpx hpy hg2) ex2 σ2 p2 d2 ρ2 stk2 a2 w2' G2 hpin2 (by omega) (fun i hi => (hρ2 i (by omega)).trans (hρ i hi)) hl2 ⟨l2 ++ l, by rw [hstk2, hstk, List.append_assoc]⟩ hk2 hs2
    | exit i => exact hk w1 S1 (hg.sub hpx) (.exit i) σ' p' d' ρ' stk' a' w' G' hpin' hp hρ hl ⟨l, hstk⟩ hkk hs'
    | ret => exact hk w1 S1 (hg.sub hpx) .ret σ' p' d' ρ' stk' a' w' G' hpin' hp hρ hl ⟨l, hstk⟩ hkk hs'
  | cond c x y ihx ihy =>
    intro ro k σ p d ρ stk Q w0 S0 hV hro h hd hpin hk a w G hs
    have hpx : plainC (.cond c x y) = true → plainC x = true := fun h => by simp only [plainC, Bool.and_eq_true] at h; exact h.1
    have hpy : plainC (.cond c x y) = true → plainC y = true := fun h => by simp only [plainC, Bool.and_eq_true] at h; exact h.2
    have hcond : ∀ e, condE σ N.P c = some e → ∃ b, a.eval c = .bool b ∧ den ρ e = .bool b := by
      intro e he
      unfold condE at he
      split at he
      · rename_i e' he'
        injection he with he; subst he
        obtain ⟨_, h2, h3⟩ := getD_ok hs.t (pc := []) rfl he'
        obtain ⟨b, hb⟩ := has_bool.1 h3
        exact ⟨b, (hb ▸ h2).inv_bool, hb⟩
      · cases he
    have goX := fun h => ihx ro k σ p d ρ stk Q w0 S0 hV (hro.sub hpx (fun _ _ h => h)) h hd hpin (fun w1 S1 hg => hk w1 S1 (hg.sub hpx)) a w G hs
    have goY := fun h => ihy ro k σ p d ρ stk Q w0 S0 hV (hro.sub hpy (fun _ _ h => h)) h hd hpin (fun w1 S1 hg => hk w1 S1 (hg.sub hpy)) a w G hs
    simp only [vc] at h
    split at h
    · rename_i hce
      obtain ⟨b, hb1, hb2⟩ := hcond _ hce
      simp only [den, D.bool.injEq] at hb2; subst hb2
      exact WP.cond hb1 (goX h)
    · rename_i hce
      obtain ⟨b, hb1, hb2⟩ := hcond _ hce
      simp only [den, D.bool.injEq] at hb2; subst hb2
      exact WP.cond hb1 (goY h)
    · rename_i e _ _ hce
      obtain ⟨b, hb1, hb2⟩ := hcond _ hce
      split at h
      · obtain ⟨h1, h2⟩ := h
        cases b with
        | true => exact WP.cond hb1 (goX (h1 (by rw [hb2]; rfl)))
        | false => exact WP.cond hb1 (goY (h2 (by rw [hb2]; rfl)))
      · exact h.elim
    · exact h.elim
  | block i c ih =>
    intro ro k σ p d ρ stk Q w0 S0 hV hro h hd hpin hk a w G hs
    refine WP.block (ih ro _ σ p d ρ stk (Exit.inBlock i Q) w0 S0 hV (hro.sub (fun h => h) (fun _ _ h => h)) h hd hpin ?_ a w G hs)
    intro w1 S1 hg ex σ' p' d' ρ' stk' a' w' G' hpin' hp hρ hl hstk hkk hs'
    have hg' : Goes N Φ Pre (.block i c) w0 S0 w1 S1 := Goes.sub (x := c) (fun h => h) hg
    cases ex with
    | normal => exact hk w1 S1 hg' .normal σ' p' d' ρ' stk' a' w' G' hpin' hp hρ hl hstk hkk hs'
    | ret => exact hk w1 S1 hg' .ret σ' p' d' ρ' stk' a' w' G' hpin' hp hρ hl hstk hkk hs'
    | exit j =>
      simp only at hkk
      show (if j = i then Q .normal a' w' else Q (.exit j) a' w')
      by_cases hj : j = i
      · rw [if_pos hj] at hkk ⊢
        exact hk w1 S1 hg' .normal σ' p' d' ρ' stk' a' w' G' hpin' hp hρ hl hstk hkk hs'
      · rw [if_neg hj] at hkk ⊢
        exact hk w1 S1 hg' (.exit j) σ' p' d' ρ' stk' a' w' G' hpin' hp hρ hl hstk hkk hs'
  | loop c ih =>
    intro ro k σ p d ρ stk Q w0 S0 hV hro h hd hpin hk a w G hs
    simp only [vc] at h
    split at h
    · exact h.elim
    rename_i hpl
    have hpl' : N.its = [] ∨ plainC c = true := by
      simp only [Bool.and_eq_true, Bool.not_eq_true', not_and, Bool.not_eq_false] at hpl
      cases hq : N.its with
      | nil => exact .inl rfl
      | cons x r => exact .inr (hpl (by rw [hq]; rfl))
    split at h
    · rename_i es hfit
      obtain ⟨I, m, hI0, hround⟩ := h
      have hok := mkHead_ok N.n (((firstReg c).bind (lk N.anns)).getD {}) ((((firstReg c).bind (lk N.anns)).getD {}).own.map (·.1) ++ assigned c) σ p
      generalize hh : mkHead N.n (((firstReg c).bind (lk N.anns)).getD {}) ((((firstReg c).bind (lk N.anns)).getD {}).own.map (·.1) ++ assigned c) σ p = hd' at *
      have hv0 : hd'.v0 = p := by rw [← hh]; rfl
      have tyOk : ∀ {es' : List E} {ρ' : Nat → D}, es'.length = hd'.size → (∀ (j : Nat) x e, hd'.slots[j]? = some x → es'[j]? = some e → Has (slotTy x.2.1 x.2.2) (den ρ' e)) → HasL (.ofL (hd'.slots.map fun x => slotTy x.2.1 x.2.2)) (es'.map (den ρ')) := by
        intro es' ρ' h1 h2
        refine hasL_mk (by simp [h1, Head.size]) fun j u x hj hx => ?_
        simp only [List.getElem?_map, Option.map_eq_some_iff] at hj hx
        obtain ⟨y, hy, rfl⟩ := hj
        obtain ⟨e, he, rfl⟩ := hx
        exact h2 j y e hy he
      obtain ⟨q1, q2, G1, q3⟩ := fitSt_ok hs hok hfit (ρ0 := ρ) (fun _ _ => rfl) (fun i b hi => by rw [hv0]; exact hpin i b hi)
      rw [hv0] at q3
      refine WP.loop (fun kk a' w' => ∃ w1 S1 xs G', Goes N Φ Pre (.loop c) w0 S0 w1 S1 ∧ (∀ i b, S1.pin i = some b → i < p) ∧ HasL (.ofL (hd'.slots.map fun x => slotTy x.2.1 x.2.2)) xs ∧ I xs ∧ m xs = kk ∧ Sim N.n w1 S1 ⟨updV ρ p xs, p + hd'.size, fun i => i < p + hd'.size⟩ G' hd'.st a' w') _
        ⟨w0, S0, es.map (den ρ), G1, Goes.refl hV, hpin, tyOk q1 q2, hI0, rfl, q3⟩ ?_
      rintro kk a' w' ⟨w1, S1, xs, G', hg1, hpin1, hty, hI, rfl, hs'⟩
      refine ih ro _ hd'.st (p + hd'.size) (d + 1) (updV ρ p xs) _ (Exit.then (fun a' w' => ∃ n', n' < m xs ∧ ∃ w1 S1 xs G', Goes N Φ Pre (.loop c) w0 S0 w1 S1 ∧ (∀ i b, S1.pin i = some b → i < p) ∧ HasL (.ofL (hd'.slots.map fun x => slotTy x.2.1 x.2.2)) xs ∧ I xs ∧ m xs = n' ∧ Sim N.n w1 S1 ⟨updV ρ p xs, p + hd'.size, fun i => i < p + hd'.size⟩ G' hd'.st a' w') Q) w1 S1 hg1.env (hro.sub (fun h => h) (fun _ _ h => h)) (hround xs hty hI) (by simp [hd]) (fun i b hi => Nat.lt_of_lt_of_le (hpin1 i b hi) (Nat.le_add_right _ _)) ?_ a' w' G' hs'
      intro w2 S2 hg2 ex σ2 p2 d2 ρ2 stk2 a2 w2' G2 hpin2 hp2 hρ2 hl2 ⟨l2, hstk2⟩ hk2 hs2
      have hagree : ∀ i, i < p → ρ2 i = ρ i := fun i hi => (hρ2 i (by omega)).trans (updV_lt hi)
      have hg12 : Goes N Φ Pre (.loop c) w0 S0 w2 S2 := hg1.seq (x := .loop c) (y := c) (fun h => h) (fun h => h) hg2
      cases ex with
      | normal =>
        simp only at hk2
        split at hk2
        · rename_i es' hfit'
          have hlen : l2.length = d2 - 1 - d := by
            have := congrArg List.length hstk2
            simp only [List.length_append, List.length_cons] at this
            omega
          have hget : stk2[d2 - 1 - d]? = some (fun ys => I ys ∧ m ys < m xs) := by
            rw [hstk2, ← hlen, List.getElem?_append_right (Nat.le_refl _), Nat.sub_self]; rfl
          simp only [VC.holds, hget] at hk2
          obtain ⟨G2', hs2'⟩ := hs2.frzSt hd'.slots
          have hsame : ∀ i b, S2.pin i = some b → i < p := by rw [(hg2.same hpl').2]; exact hpin1
          obtain ⟨r1, r2, G3, r3⟩ := fitSt_ok hs2' hok hfit' (ρ0 := ρ) (fun i hi => by rw [hv0] at hi; exact (hagree i hi).symm) (fun i b hi => by rw [hv0]; exact hsame i b hi)
          rw [hv0] at r3
          exact ⟨_, hk2.2, w2, S2, es'.map (den ρ2), G3, hg12, hsame, tyOk r1 r2, hk2.1, rfl, r3⟩
        · exact hk2.elim
      | exit i => exact hk w2 S2 hg12 (.exit i) σ2 p2 d2 ρ2 stk2 a2 w2' G2 hpin2 (by omega) hagree hl2 ⟨l2 ++ [fun ys => I ys ∧ m ys < m xs], by rw [hstk2]; simp⟩ hk2 hs2
      | ret => exact hk w2 S2 hg12 .ret σ2 p2 d2 ρ2 stk2 a2 w2' G2 hpin2 (by omega) hagree hl2 ⟨l2 ++ [fun ys => I ys ∧ m ys < m xs], by rw [hstk2]; simp⟩ hk2 hs2
    · exact h.elim
  | rangeFunc g ps assign body iha ihb =>
    intro ro k σ p d ρ stk Q w0 S0 hV hro h hd hpin hk a w G hs
    cases ro with
    | some l => exact absurd (hro rfl).1 (by simp [plainC])
    | none =>
    simp only [vc] at h
    obtain ⟨G, hs⟩ := hs.frXs (N := N) (((firstReg assign).bind (lk N.anns)).getD {}) (fun hz => ⟨fun hf => by have := hV.cf.1 hf; omega, fun hf => by have := hV.cf.2 hf; omega⟩)
    generalize frXs N (((firstReg assign).bind (lk N.anns)).getD {}) σ = σ at h hs
    split at h
    · rename_i fe kf fs q hgv hps
      split at h
      · rename_i fs' et hlk
        split at h
        · rename_i es hfit
          split at h
          · rename_i hc
            simp only [Bool.and_eq_true, decide_eq_true_eq] at hc
            obtain ⟨⟨⟨⟨⟨⟨⟨hrf, hpa⟩, hpb⟩, hq⟩, hfelt⟩, hfs⟩, hetb⟩, _⟩ := hc
            obtain ⟨hpre, I, hI0, hbodyV, hdoneV⟩ := h
            have hitsne : N.its ≠ [] := fun h => by rw [h] at hlk; cases hlk
            have hnpl : plainC (.rangeFunc g ps assign body) = false := rfl
            unfold rfOk at hrf
            simp only [Bool.and_eq_true, beq_iff_eq] at hrf
            obtain ⟨hfr0, hnopl⟩ := hrf
            have hnf : ¬ S0.fr := fun hf => by have := hV.cf.1 hf; omega
            have hnw : ¬ S0.wz := fun hf => by have := hV.cf.2 hf; omega
            have hvl : ∀ (w1 : World) (S1 : Base), ∀ k sig ob, lk N.cs.l k = some sig → sig.ob = some ob → ob.isPl = true → ∀ b o, S1.foot b o → ¬ NewB w1 S1 b := by
              intro w1 S1 k sig ob h1 h2 h3
              have := List.all_eq_true.1 hnopl _ (lk_mem h1)
              simp only [h2, h3] at this
              cases this
            have hok := mkHead_ok N.n (((firstReg assign).bind (lk N.anns)).getD {}) [] (rfSt σ) p
            have htmH : ∀ t c s, (mkHead N.n (((firstReg assign).bind (lk N.anns)).getD {}) [] (rfSt σ) p).st.tm t = some (c, s) → t < N.n ∧ rfEnt σ (σ.tm t) = some (c, s) := by
              intro t c s ht
              simp only [mkHead, dedup] at ht
              split at ht
              · rename_i htn
                simp only [List.contains_nil, Bool.false_eq_true, if_false] at ht
                exact ⟨htn, ht⟩
              · cases ht
            have hhpH : ∀ id, id < p → (σ.hp id).isSome = true → ((mkHead N.n (((firstReg assign).bind (lk N.anns)).getD {}) [] (rfSt σ) p).st.hp id).isSome = true := by
              intro id hid hsm
              obtain ⟨y, hy⟩ := Option.isSome_iff_exists.1 hsm
              simp only [mkHead]
              rw [if_pos hid]
              have : (rfSt σ).hp id = some y := hy
              rw [this]; rfl
            generalize hh : mkHead N.n (((firstReg assign).bind (lk N.anns)).getD {}) [] (rfSt σ) p = hd' at *
            have hv0 : hd'.v0 = p := by rw [← hh]; rfl
            have hok0 : HeadOk N.n (noTm hd') := ⟨fun _ _ => rfl, hok.hp, hok.live⟩
            have tyOk : ∀ {es' : List E} {ρ' : Nat → D}, es'.length = hd'.size → (∀ (j : Nat) x e, hd'.slots[j]? = some x → es'[j]? = some e → Has (slotTy x.2.1 x.2.2) (den ρ' e)) → HasL (.ofL (hd'.slots.map fun x => slotTy x.2.1 x.2.2)) (es'.map (den ρ')) := by
              intro es' ρ' h1 h2
              refine hasL_mk (by simp [h1, Head.size]) fun j u x hj hx => ?_
              simp only [List.getElem?_map, Option.map_eq_some_iff] at hj hx
              obtain ⟨y, hy, rfl⟩ := hj
              obtain ⟨e, he, rfl⟩ := hx
              exact h2 j y e hy he
            have hs0 := hs.rf
            -- the temporaries' forms
            have hform : ∀ t c s, hd'.st.tm t = some (c, s) → c = [] ∧ s.lt p = true ∧ s.ids p = true ∧
                ((∃ e t, s = .one (.dat e t)) ∨ (∃ t, s = .one (.nils t)) ∨ (∃ id off, s = .one (.adr id off) ∧ (σ.hp id).isSome = true) ∨ ∃ id, s = .one (.mref id) ∧ (σ.hp id).isSome = true) := by
              intro t c s ht
              obtain ⟨htn, he⟩ := htmH t c s ht
              obtain ⟨h1, h2⟩ := rfEnt_form he
              have hft : fitTm N.n hd' (rfSt σ) = true := by
                unfold fitSt at hfit
                split at hfit
                · simp only at hfit
                  split at hfit
                  · rename_i hcc
                    simp only [Bool.and_eq_true] at hcc
                    exact hcc.1.1.1.1
                  · cases hfit
                · cases hfit
              have := List.all_eq_true.1 hft t (List.mem_range.2 htn)
              simp only [ht] at this
              split at this
              · rename_i j ty T hsi
                exfalso
                obtain ⟨_, hj⟩ := slotIdx_get hsi
                rw [← hh] at hj
                simp only [mkHead, dedup, List.filterMap_nil, List.nil_append, Nat.sub_zero] at hj
                have hm := List.mem_of_getElem? hj
                obtain ⟨x, _, hx⟩ := List.mem_flatMap.1 hm
                split at hx
                · exact boxSlots_noTmp hx
                · exact boxSlots_noTmp hx
                · simp at hx
              · simp only [Bool.and_eq_true, decide_eq_true_eq] at this
                rw [hv0] at this
                exact ⟨h1, this.1.1.2, this.1.2, h2⟩
            obtain ⟨q1, q2, G1, ⟨hG1S, hG1β, _⟩, q3⟩ := fitSt_okX hs0 hok hfit (ρ0 := ρ) (fun _ _ => rfl) (fun i b hi => by rw [hv0]; exact hpin i b hi)
            rw [hv0] at q3
            obtain ⟨f1, f2, f3⟩ := getV_ok hs.t (pc := []) rfl hgv
            obtain ⟨fl, hfl, hfh⟩ := has_fn.1 f3
            obtain ⟨cvs, hfv, hclen, hcr⟩ := (hfl ▸ f2).inv_fn
            have hit := hits kf _ hlk
            have hden : (den ρ (.ofL ((cellsE fe 0 fs.toL).map (·.1)))).toL = fl := by
              rw [den_ofL]
              simp only [D.toL, List.map_map]
              apply List.ext_getElem?
              intro i
              simp only [List.getElem?_map, cellsE_get, Option.map_map]
              have hfl' : den ρ fe = .fn kf fl := hfl
              cases hi : (fs.toL)[i]? with
              | none =>
                have : fl.length ≤ i := by rw [hasL_len hfh]; exact List.getElem?_eq_none_iff.1 hi
                simp [List.getElem?_eq_none this]
              | some t =>
                obtain ⟨x, hx, _⟩ := hasL_get hfh i t hi
                simp only [Option.map_some, Function.comp, den, U.den, hfl', D.toL, Nat.zero_add, toL_getD hx, hx]
            rw [hden] at hpre hbodyV hdoneV
            have htyl : (hd'.slots.map fun x => slotTy x.2.1 x.2.2).length = hd'.size := by simp [Head.size]
            rw [htyl] at hbodyV
            -- leaving
            have leave : ∀ (ex : Ex) (st : St) (p2 d2 : Nat) (ρ2 : Nat → D) (stk2 : List (List D → Prop)) (G2 : Gh) (r : Nat) (W : World), p ≤ p2 → (∀ i, i < p → ρ2 i = ρ i) → stk2.length = d2 → (∃ l, stk2 = l ++ stk) → (k ex st p2 d2).holds Φ Pre R ρ2 stk2 →
                Sim N.n w0 S0 ⟨ρ2, p2, fun i => i < p2⟩ G2 st a W → w.heap.size ≤ r → W.heap[r]? = some (.deferred (some [])) → Q ex.to { a with defers := mark r :: a.defers } W := by
              intro ex st p2 d2 ρ2 stk2 G2 r W hp2 hρ2 hl2 hst2 hk2 hs2 hr hW
              have hp0 : ∀ i b, S0.pin i = some b → (i < p2) ∧ G2.β i = b := fun i b hi => hs2.m.pin i b hi
              refine hk W (reBase S0 S0.pin G2 st (mark r :: S0.dfs)) ⟨?_, hs2.m.ext (fun _ _ h => h) (fun _ _ h => .inr h) _, ⟨hvl _ _, ⟨hV.cf.1, hV.cf.2, hV.cf.prog, hV.cf.keys, hV.cf.eat⟩, fun h2 => by omega, fun _ => ?_⟩, ⟨[r], rfl, ?_⟩⟩ ex st p2 d2 ρ2 stk2 _ W G2 ?_ hp2 hρ2 hl2 hst2 hk2
                ⟨hs2.m.forward hnf hp0 _, hs2.t, hs2.sz, by show mark r :: a.defers = mark r :: S0.dfs; rw [hs2.defers]⟩
              · rintro (h | h)
                · exact absurd h hitsne
                · rw [hnpl] at h; cases h
              · obtain ⟨ms, m1, m2, m3⟩ := (hV.dfs hitsne).ex
                have hlt0 : ∀ x ∈ ms, x < w0.heap.size := fun x hx => (Array.getElem?_eq_some_iff.1 (m3 x hx).1).1
                refine ⟨r :: ms, by show mark r :: S0.dfs = _; rw [m1]; rfl, List.nodup_cons.2 ⟨fun hx => ?_, m2⟩, fun x hx => ?_⟩
                · have := hlt0 r hx
                  have := hs.m.below.size
                  omega
                · rcases List.mem_cons.1 hx with rfl | hx
                  · exact ⟨hW, fun hmu => by have := muOf_noBook hs2.m hmu _ hW; cases this⟩
                  · obtain ⟨n1, n2⟩ := m3 x hx
                    refine ⟨(hs2.m.below.block x (hlt0 x hx) n2).trans n1, fun hmu => ?_⟩
                    have := muOf_noBook hs2.m hmu _ ((hs2.m.below.block x (hlt0 x hx) n2).trans n1)
                    cases this
              · intro x hx
                simp only [List.mem_singleton] at hx
                subst hx
                exact Nat.le_trans hs.m.below.size hr
              · intro i b hi
                exact ((hs2.m.forward hnf hp0 []).pin i b hi).1
            have hst1 : ∀ {W : World} {xs : List D} {G' : Gh}, Sim N.n w0 S0 ⟨updV ρ p xs, p + hd'.size, fun i => i < p + hd'.size⟩ G' hd'.st a W → True := fun _ => trivial
            have hbelow0 := hs.m.below.size
            refine range_law (q := q) (by rw [← Array.toArray_toList (xs := ps), hps]) (by rw [hfv]) hit (S := G.S) (ds := fl) hs.m.footlt hclen hcr (by rw [hfs]; exact hasL_toL hfh) hpre
              (fun i X W => ∃ xs G', HasL (.ofL (hd'.slots.map fun x => slotTy x.2.1 x.2.2)) xs ∧ I i xs ∧ Sim N.n w0 S0 ⟨updV ρ p xs, p + hd'.size, fun i => i < p + hd'.size⟩ G' hd'.st a W ∧ (∀ b, X b ↔ muOf G' hd'.st b) ∧ ∀ b o, G.S b o → G'.S b o)
              (fun c W => ∃ (ex : Ex) (σ2 : St) (p2 d2 : Nat) (ρ2 : Nat → D) (stk2 : List (List D → Prop)) (G2 : Gh), (ex = .ret ∧ c = .ret ∨ ∃ id, ex = .exit id ∧ c = .exit id) ∧ p ≤ p2 ∧ (∀ i, i < p → ρ2 i = ρ i) ∧ stk2.length = d2 ∧ (∃ l, stk2 = l ++ stk) ∧
                (k ex ⟨hd'.st.tm, σ2.hp, σ2.live⟩ p2 d2).holds Φ Pre R ρ2 stk2 ∧ Sim N.n w0 S0 ⟨ρ2, p2, fun i => i < p2⟩ G2 ⟨hd'.st.tm, σ2.hp, σ2.live⟩ a W)
              (muOf G1 hd'.st) ?hI ?hIx ?hX ?h0 ?hround ?hSw ?hdone ?hret ?hexit
            case hI =>
              rintro i X W W' ⟨xs, G', h1, h2, h3, h4, h5⟩ ht
              exact ⟨xs, G', h1, h2, h3.turns (ht.to hbelow0) hnf, h4, h5⟩
            case hIx =>
              rintro c W W' ⟨ex, σ2, p2, d2, ρ2, stk2, G2, h1, h2, h3, h4, h5, h6, h7⟩ ht
              exact ⟨ex, σ2, p2, d2, ρ2, stk2, G2, h1, h2, h3, h4, h5, h6, h7.turns (ht.to hbelow0) hnf⟩
            case hX =>
              rintro i X W ⟨xs, G', h1, h2, h3, h4, h5⟩ b hb
              exact ⟨muOf_lt h3.m ((h4 b).1 hb), muOf_noBook h3.m ((h4 b).1 hb)⟩
            case h0 => exact ⟨es.map (den ρ), G1, tyOk q1 q2, hI0, q3, fun _ => Iff.rfl, fun b o hb => by rw [hG1S]; exact hb⟩
            case hSw =>
              rintro i X W ⟨xs, G', h1, h2, h3, h4, h5⟩ b o hb
              exact h3.m.footlt b o (h5 b o hb)
            case hdone =>
              rintro r X W hr ⟨xs, G', h1, h2, h3, h4, h5⟩ hW
              exact leave .normal hd'.st (p + hd'.size) d (updV ρ p xs) stk G' r W (Nat.le_add_right _ _) (fun i hi => updV_lt hi) hd ⟨[], rfl⟩ (hdoneV xs h1 h2) h3 hr hW
            case hret =>
              rintro r W hr ⟨ex, σ2, p2, d2, ρ2, stk2, G2, h1, h2, h3, h4, h5, h6, h7⟩ hW
              rcases h1 with ⟨rfl, _⟩ | ⟨id, _, h1⟩
              · exact leave .ret _ p2 d2 ρ2 stk2 G2 r W h2 h3 h4 h5 h6 h7 hr hW
              · cases h1
            case hexit =>
              rintro r id W hr ⟨ex, σ2, p2, d2, ρ2, stk2, G2, h1, h2, h3, h4, h5, h6, h7⟩ hW
              rcases h1 with ⟨_, h1⟩ | ⟨id', rfl, h1⟩
              · cases h1
              · injection h1 with h1; subst h1
                exact leave (.exit id) _ p2 d2 ρ2 stk2 G2 r W h2 h3 h4 h5 h6 h7 hr hW
            case hround =>
              rintro l i x v X W ⟨xs, G', hxs, hIi, hsW, hXi, hSS⟩ hx hv hex
              have hρx : ∀ i, i < p + hd'.size → upd (updV ρ p xs) (p + hd'.size) x i = updV ρ p xs i := fun i hi => upd_ne _ _ (by omega)
              have hp0 : ∀ i b, S0.pin i = some b → i < p + hd'.size ∧ G'.β i = b := fun i b hi => hsW.m.pin i b hi
              have hlatx : Later ⟨updV ρ p xs, p + hd'.size, fun i => i < p + hd'.size⟩ W G' ⟨upd (updV ρ p xs) (p + hd'.size) x, p + hd'.size + 1, fun i => i < p + hd'.size + 1⟩ W G' :=
                ⟨fun e he => ⟨den_agree hρx he, E.lt_mono (Nat.le_succ _) he⟩, fun i hi => Nat.lt_succ_of_lt hi, fun _ _ h => h, fun _ _ _ => rfl, fun _ _ => rfl, fun _ _ => rfl⟩
              have hS1 : Sim N.n W (reBase S0 S0.pin G' hd'.st []) ⟨upd (updV ρ p xs) (p + hd'.size) x, p + hd'.size + 1, fun i => i < p + hd'.size + 1⟩ G'
                  ⟨upd hd'.st.tm q (some ([], .one (.dat (.var (p + hd'.size)) et))), hd'.st.hp, hd'.st.live⟩ { tmps := a.tmps.setIfInBounds q v, defers := [] } W := by
                refine ⟨((hsW.m.forward hnf hp0 []).later_same hlatx).congr rfl rfl, ?_, by simp [hsW.sz], rfl⟩
                exact (hsW.t.later hlatx).put (some q) v [] (.one (.dat (.var (p + hd'.size)) et)) (by simp) (by simp [SV.lt, SC.lt, E.lt])
                  (by
                    simp only [condB, List.all_nil, if_true]
                    have hdx : den (upd (updV ρ p xs) (p + hd'.size) x) (.var (p + hd'.size)) = x := upd_same _ _ _
                    exact ⟨by simp [E.lt], by rw [hdx]; exact hv _ _, by rw [hdx]; exact hex⟩)
                  (fun i hi => by injection hi with hi; subst hi; rw [hsW.sz]; exact hq)
              have hext1 : Ext w0 S0 W (reBase S0 S0.pin G' hd'.st []) := hsW.m.ext (fun _ _ h => h) (fun _ _ h => .inr h) []
              have hpin1 : ∀ i b, (reBase S0 S0.pin G' hd'.st []).pin i = some b → i < p + hd'.size + 1 := fun i b hi => Nat.lt_succ_of_lt ((hsW.m.forward hnf hp0 []).pin i b hi).1
              have hV1 : ∀ (w1 : World) (pin0 : Nat → Option Nat) (G : Gh) (st : St), VEnv N Φ Pre w1 (reBase S0 pin0 G st []) := fun w1 pin0 G st =>
                ⟨hvl _ _, ⟨hV.cf.1, hV.cf.2, hV.cf.prog, hV.cf.keys, hV.cf.eat⟩, fun h2 => by omega, fun _ => ⟨[], rfl, List.nodup_nil, by simp⟩⟩
              refine iha (some l) _ _ (p + hd'.size + 1) (d + 1) _ ((fun ys => I (i + 1) ys) :: stk) _ W (reBase S0 S0.pin G' hd'.st []) (hV1 _ _ _ _) (fun _ => ⟨hpa, fun _ _ h => h⟩) (hbodyV i x xs hx hex hxs hIi) (by simp [hd]) hpin1 ?_ _ W G' hS1
              intro wA SA hgA ex1 σ1 p1 d1 ρ1 stk1 a1 W1 G1' hpinA hp1 hρ1 hl1 hst1 hk1 hs1
              obtain ⟨l1, hst1⟩ := hst1
              obtain ⟨hwA, hSA⟩ := hgA.same (.inr hpa)
              rw [hwA, hSA] at hs1
              cases ex1 with
              | exit id => exact hk1.elim
              | ret => exact hk1.elim
              | normal =>
                have hXm : ∀ b, X b ↔ (reBase S0 S0.pin G' hd'.st []).mu b := hXi
                have hb1 := hs1.m.below
                refine ⟨⟨⟨hb1.os, hb1.tape, hb1.output, hb1.size, fun k hk hnX => hb1.block k hk (fun hm => hnX ((hXm k).2 hm))⟩, fun b o hb => hs1.m.keep b o (hSS b o hb)⟩, fun W2 ht2 => ?_⟩
                have hm01 : SimM w0 S0 ⟨ρ1, p1, fun i => i < p1⟩ G1' σ1 W1 := hs1.m.rebase hext1
                have hm02 : SimM w0 S0 ⟨ρ1, p1, fun i => i < p1⟩ G1' σ1 W2 := hm01.turns (ht2.to hbelow0) hnf
                have hp1' : ∀ i b, (reBase S0 S0.pin G' hd'.st []).pin i = some b → i < p1 ∧ G1'.β i = b := fun i b hi => hs1.m.pin i b hi
                have hS2 : Sim N.n W2 (reBase S0 (reBase S0 S0.pin G' hd'.st []).pin G1' σ1 []) ⟨ρ1, p1, fun i => i < p1⟩ G1' σ1 a1 W2 :=
                  ⟨hm02.forward hnf hp1' [], hs1.t.later (Turns.later hm01 (ht2.to hbelow0)), hs1.sz, hs1.defers⟩
                have hsub : ∀ i b, S0.pin i = some b → (reBase S0 S0.pin G' hd'.st []).pin i = some b := fun i b hi => hext1.pin i b hi
                have hb0 : ∀ i b, (reBase S0 S0.pin G' hd'.st []).pin i = some b → BoxB w0 S0 b ∨ S0.pin i = some b := by
                  intro i b hi
                  simp only [reBase] at hi
                  split at hi
                  · rename_i b' hb'
                    injection hi with hi; subst hi
                    exact .inr hb'
                  · split at hi
                    · rename_i hsm
                      injection hi with hi
                      obtain ⟨y, hy⟩ := Option.isSome_iff_exists.1 hsm
                      exact .inl (hi ▸ (hsW.m.box i y.1 y.2 hy).1)
                    · cases hi
                have hext2 : Ext w0 S0 W2 (reBase S0 (reBase S0 S0.pin G' hd'.st []).pin G1' σ1 []) := hm02.ext hsub hb0 []
                refine ihb (some l) _ σ1 p1 d1 ρ1 stk1 (fun e _ W3 => rPost _ _ G.S X i W W2 e W3) W2 _ (hV1 _ _ _ _) (fun _ => ⟨hpb, fun _ _ h => h.2.2⟩) hk1 hl1 (fun i b hi => (hS2.m.pin i b hi).1) ?_ a1 W2 G1' hS2
                intro wB SB hgB ex2 σ2 p2 d2 ρ2 stk2 a2 W3 G2 hpinB hp2 hρ2 hl2 hst2 hk2 hs2
                obtain ⟨l2, hst2⟩ := hst2
                obtain ⟨hwB, hSB⟩ := hgB.same (.inr hpb)
                rw [hwB, hSB] at hs2
                have hb2 := hs2.m.below
                have hρ20 : ∀ i, i < p → ρ2 i = ρ i := fun i hi => (hρ2 i (by omega)).trans ((hρ1 i (by omega)).trans ((hρx i (by omega)).trans (updV_lt hi)))
                have hcells : ∀ b o, G'.S b o → W3.cell? ⟨b, o, none⟩ = W.cell? ⟨b, o, none⟩ := fun b o hb => by
                  have e1 := hs1.m.keep b o hb
                  have e2 := ht2.cells (hs1.m.footlt b o (hs1.m.foot0 b o hb)) o
                  have e3 := hs2.m.keep b o (hs1.m.foot0 b o hb)
                  exact e3.trans (e2.trans e1)
                have hstk : ∃ l3, stk2 = l3 ++ ((fun ys => I (i + 1) ys) :: stk) := ⟨l2 ++ l1, by rw [hst2, hst1, List.append_assoc]⟩
                have htmA : ∀ {C' : Cx} {G'' : Gh}, (∀ i, i < p → C'.ρ i = ρ i) → p ≤ C'.N → (∀ i, i < p → C'.M i) → (∀ b o, G'.S b o → G''.S b o) → (∀ id, id < p → (σ.hp id).isSome = true → G''.β id = G'.β id) → SimT C' W3 G'' hd'.st.tm a := by
                  intro C' G'' g1 g2 g3 g4 g5
                  refine rfTm_later (p := p) hsW.t (fun t c s ht => ?_) (fun i hi => (g1 i hi).trans (updV_lt hi).symm) g2 g3 g4 hcells
                  obtain ⟨k1, k2, k3, k4⟩ := hform t c s ht
                  refine ⟨k1, k2, ?_⟩
                  rcases k4 with h | h | ⟨id, off, rfl, hsm⟩ | ⟨id, rfl, hsm⟩
                  · exact .inl h
                  · exact .inr (.inl h)
                  · have hid : id < p := by simpa [SV.ids, SC.ids] using k3
                    exact .inr (.inr (.inl ⟨id, off, rfl, hid, g5 id hid hsm⟩))
                  · have hid : id < p := by simpa [SV.ids, SC.ids] using k3
                    exact .inr (.inr (.inr ⟨id, rfl, hid, g5 id hid hsm⟩))
                have hpinβ : ∀ {C' : Cx} {G'' : Gh} {st : St} {W' : World}, SimM W2 (reBase S0 (reBase S0 S0.pin G' hd'.st []).pin G1' σ1 []) C' G'' st W' → ∀ id, id < p → (σ.hp id).isSome = true → G''.β id = G'.β id := by
                  intro C' G'' st W' hm id hid hsm
                  have h1 : (reBase S0 S0.pin G' hd'.st []).pin id = some (G'.β id) := by
                    simp only [reBase]
                    split
                    · rename_i b hb
                      rw [(hp0 id b hb).2]
                    · rw [if_pos (hhpH id hid hsm)]
                  exact (hm.pin id _ (by simp only [reBase] at h1 ⊢; rw [h1])).2
                refine ⟨⟨hb2.os, hb2.tape, hb2.output, hb2.size⟩, fun k o hko hbo => ?_, ?_⟩
                · refine (hb2.block k (Array.getElem?_eq_some_iff.1 hko).1 (fun hm => ?_)).trans hko
                  have := muOf_noBook hm02 hm o hko
                  rw [this] at hbo; cases hbo
                cases ex2 with
                | normal =>
                  simp only at hk2
                  split at hk2
                  · rename_i es' hfit'
                    obtain ⟨l3, hstk⟩ := hstk
                    have hlen : l3.length = d2 - 1 - d := by
                      have := congrArg List.length hstk
                      simp only [List.length_append, List.length_cons] at this
                      omega
                    have hget : stk2[d2 - 1 - d]? = some (fun ys => I (i + 1) ys) := by
                      rw [hstk, ← hlen, List.getElem?_append_right (Nat.le_refl _), Nat.sub_self]; rfl
                    simp only [VC.holds, hget] at hk2
                    obtain ⟨G2', hs2'⟩ := hs2.frzSt hd'.slots
                    have hs20 : Sim N.n w0 { S0 with dfs := [] } ⟨ρ2, p2, fun i => i < p2⟩ G2' (frzSt hd'.slots σ2) a2 W3 := ⟨hs2'.m.rebase (hext2.dfs []), hs2'.t, hs2'.sz, hs2'.defers⟩
                    obtain ⟨r1, r2, G3, ⟨hG3S, hG3β, hG3m⟩, r3⟩ := fitSt_okX hs20 hok0 hfit' (ρ0 := ρ) (fun i hi => by
                      have hi' : i < hd'.v0 := hi
                      rw [hv0] at hi'; exact (hρ20 i hi').symm) (fun i b hi => by show i < hd'.v0; rw [hv0]; exact hpin i b hi)
                    have r3' : Sim N.n w0 { S0 with dfs := [] } ⟨updV ρ p (es'.map (den ρ2)), p + hd'.size, fun i => i < p + hd'.size⟩ G3 (noTm hd').st a2 W3 := by rw [← hv0]; exact r3
                    have hGS : ∀ b o, G'.S b o → G3.S b o := fun b o hb => by rw [hG3S]; exact hs2'.m.foot0 b o (hs1.m.foot0 b o hb)
                    have hsEnd : Sim N.n w0 S0 ⟨updV ρ p (es'.map (den ρ2)), p + hd'.size, fun i => i < p + hd'.size⟩ G3 hd'.st a W3 :=
                      ⟨(r3'.m.dfs).congr rfl rfl, htmA (fun i hi => updV_lt hi) (Nat.le_add_right _ _) (fun i hi => Nat.lt_of_lt_of_le hi (Nat.le_add_right _ _)) hGS (fun id h1 h2 => by rw [hG3β]; exact hpinβ hs2'.m id h1 h2), hsW.sz, hsW.defers⟩
                    refine ⟨⟨muOf G3 hd'.st, ⟨es'.map (den ρ2), G3, tyOk r1 r2, hk2, hsEnd, fun _ => Iff.rfl, fun b o hb => hGS b o (hSS b o hb)⟩, fun b hb => ?_⟩, fun k hk hnX => ?_, fun b o hb => ?_⟩
                    · rcases muOf_new hs2'.m (hG3m b hb) with h | h
                      · exact .inr (Nat.le_trans (Nat.le_trans hb1.size ht2.size) h)
                      · rcases muOf_new hs1.m h with h | h
                        · exact .inr h
                        · exact .inl ((hXm b).2 h)
                    · refine hb2.block k (Nat.lt_of_lt_of_le hk (Nat.le_trans hb1.size ht2.size)) (fun hm => ?_)
                      rcases muOf_new hs1.m hm with h | h
                      · omega
                      · exact hnX ((hXm k).2 h)
                    · exact hs2.m.keep b o (hs1.m.foot0 b o (hSS b o hb))
                  · exact hk2.elim
                | exit id =>
                  obtain ⟨l3, hstk⟩ := hstk
                  exact ⟨.exit id, σ2, p2, d2, ρ2, stk2, G2, .inr ⟨id, rfl, rfl⟩, by omega, hρ20, hl2, ⟨l3 ++ [fun ys => I (i + 1) ys], by rw [hstk]; simp⟩, hk2,
                    ⟨(hs2.m.rebase hext2).congr rfl rfl, htmA hρ20 (by show p ≤ p2; omega) (fun i hi => by show i < p2; omega) (fun b o hb => hs2.m.foot0 b o (hs1.m.foot0 b o hb)) (hpinβ hs2.m), hsW.sz, hsW.defers⟩⟩
                | ret =>
                  obtain ⟨l3, hstk⟩ := hstk
                  exact ⟨.ret, σ2, p2, d2, ρ2, stk2, G2, .inl ⟨rfl, rfl⟩, by omega, hρ20, hl2, ⟨l3 ++ [fun ys => I (i + 1) ys], by rw [hstk]; simp⟩, hk2,
                    ⟨(hs2.m.rebase hext2).congr rfl rfl, htmA hρ20 (by show p ≤ p2; omega) (fun i hi => by show i < p2; omega) (fun b o hb => hs2.m.foot0 b o (hs1.m.foot0 b o hb)) (hpinβ hs2.m), hsW.sz, hsW.defers⟩⟩
          · exact h.elim
        · exact h.elim
      · exact h.elim
    · exact h.elim
  | _ => intro ro k σ p d ρ stk Q w0 S0 hV hro h; exact h.elim

/-- The same, where no loops over functions are met. -/
theorem vc_sound {N : En} {Φ : Nat → List D → D} {Pre : Nat → List D → Prop} {R : D → Prop} (hmix : N.P.follows .mixedOrders = true) (hcon : ∀ k sig, lk N.cs.l k = some sig → PureFn N.P k sig (Pre k) (Φ k))
    (hfl : ∀ k sig ob, lk N.cs.l k = some sig → sig.ob = some ob → ob.isPl = true → ∀ b o, S0.foot b o → ¬ NewB w0 S0 b) (hcf : Env1 N.P N.cs S0 Φ Pre) (hfw : ∀ k y, lk N.fw k = some y → FreshFn N.P k y.1 y.2 (fun _ => True) (Φ k)) (hwl : ∀ k y, lk N.wl k = some y → WildFn N.P k y.1 y.2)
    (hwz : N.cs.fr = 2 → (∀ b o, ¬ S0.foot b o) ∧ S0.wz) (hn : N.its = []) :
    ∀ (c : Code) (k : Ex → St → Nat → Nat → VC) (σ : St) (p d : Nat) (ρ : Nat → D) (stk : List (List D → Prop)) (Q : Exit → Act → World → Prop), (vc N c k σ p d).holds Φ Pre R ρ stk → stk.length = d → (∀ i b, S0.pin i = some b → i < p) →
    (∀ ex σ' p' d' ρ' stk' a w G, p ≤ p' → (∀ i, i < p → ρ' i = ρ i) → stk'.length = d' → (∃ l, stk' = l ++ stk) → (k ex σ' p' d').holds Φ Pre R ρ' stk' → Sim N.n w0 S0 ⟨ρ', p', fun i => i < p'⟩ G σ' a w → Q ex.to a w) →
    ∀ a w G, Sim N.n w0 S0 ⟨ρ, p, fun i => i < p⟩ G σ a w → c.wp N.P Q a w := by
  intro c k σ p d ρ stk Q h hd hpin hk a w G hs
  refine vc_soundX hmix hcon hfw hwl (fun k y h => by rw [hn] at h; cases h) c none k σ p d ρ stk Q w0 S0 ⟨hfl, hcf, hwz, fun h => absurd hn h⟩ (fun h => by cases h) h hd hpin ?_ a w G hs
  intro w1 S1 hg ex σ' p' d' ρ' stk' a' w' G' _ hp hρ hl hst hk' hs'
  obtain ⟨hw1, hS1⟩ := hg.same (.inl hn)
  rw [hw1, hS1] at hs'
  exact hk ex σ' p' d' ρ' stk' a' w' G' hp hρ hl hst hk' hs'
end
end Go.Eng
