/-
  Whole bodies: what is left to show of one, and that it is enough.
-/
import Derived.Test.YtjpkeliliahjoaaEngQe
import Derived.Deep.LoopGhost
namespace Go.Eng
open Go Go.RowKit

inductive VC where
  | obl (pc : Cond) (e : E) (k : VC)
  | call (p f : Nat) (args : E) (pc : Cond) (k : VC)
  | room (pc : Cond) (e : E) (bytes : Nat) (k : VC)
  | branch (e : E) (t f : VC)
  | loop (v0 : Nat) (es : List E) (tys : List Ty) (body : VC)
  | again (i : Nat) (es : List E)
  | ret (e : E)
  | any (p : Nat) (t : Ty) (k : VC)
  | hav (p : Nat) (fs : List (E × E)) (k : VC)
  | stuck (why : Nat)

def VC.holds (Φ : Nat → List D → D) (Pre : Nat → List D → Prop) (R : D → Prop) : VC → (Nat → D) → List (List D → Prop) → Prop
  | .obl pc e k, ρ, stk => (condB ρ pc = true → (den ρ e).toB = true) ∧ k.holds Φ Pre R ρ stk
  | .call p f args pc k, ρ, stk => (condB ρ pc = true → Pre f (den ρ args).toL) ∧ ∀ d, d = Φ f (den ρ args).toL → k.holds Φ Pre R (upd ρ p d) stk
  | .room pc e bytes k, ρ, stk => (condB ρ pc = true → (den ρ e).toL.length ≤ maxLen ∧ (den ρ e).toL.length * bytes ≤ 140737488355328) ∧ k.holds Φ Pre R ρ stk
  | .branch e t f, ρ, stk => ((den ρ e).toB = true → t.holds Φ Pre R ρ stk) ∧ ((den ρ e).toB = false → f.holds Φ Pre R ρ stk)
  | .loop v0 es tys body, ρ, stk => ∃ (I : List D → Prop) (m : List D → Nat), I (es.map (den ρ)) ∧ ∀ xs, HasL (.ofL tys) xs → I xs → body.holds Φ Pre R (updV ρ v0 xs) ((fun ys => I ys ∧ m ys < m xs) :: stk)
  | .again i es, ρ, stk => match stk[i]? with
    | some J => J (es.map (den ρ))
    | none => False
  | .ret e, ρ, _ => R (den ρ e)
  | .any p t k, ρ, stk => ∀ d, Has t d → k.holds Φ Pre R (upd ρ p d) stk
  | .hav p fs k, ρ, stk => ∀ d, (∀ x ∈ fs, (den (upd ρ p d) x.1).toL.length = (den (upd ρ p d) x.2).toL.length) → k.holds Φ Pre R (upd ρ p d) stk
  | .stuck _, _, _ => False

inductive Ex where
  | normal
  | exit (i : Nat)
  | ret
def Ex.to : Ex → Exit
  | .normal => .normal
  | .exit i => .exit i
  | .ret => .ret

def itemB (q : Nat) : Item → Bool
  | .asm _ _ => false
  | .obl pc e => pc.all (fun x => x.1.lt q) && e.lt q
  | .call p _ args pc => p == q && args.lt q && pc.all fun x => x.1.lt q
  | .room pc e _ => pc.all (fun x => x.1.lt q) && e.lt q
def itemsB : Nat → List (Nat × Item) → Bool
  | _, [] => true
  | lo, (q, it) :: r => decide (lo ≤ q) && itemB q it && itemsB (match it with | .call .. => q + 1 | _ => q) r
def itemsVC : List (Nat × Item) → VC → VC
  | [], k => k
  | (_, .asm _ _) :: r, k => itemsVC r k
  | (_, .obl pc e) :: r, k => .obl pc e (itemsVC r k)
  | (_, .call p f args pc) :: r, k => .call p f args pc (itemsVC r k)
  | (_, .room pc e b) :: r, k => .room pc e b (itemsVC r k)
def allItems (p0 : Nat) (r : List (Nat × Eff)) : List (Nat × Item) := r.flatMap fun x => x.2.items.map fun it => (p0 + x.1, it)

def firstReg : Code → Option Nat
  | .region id _ _ => some id
  | .seq a b => match firstReg a with | some i => some i | none => firstReg b
  | .cond _ a b => match firstReg a with | some i => some i | none => firstReg b
  | .block _ c | .loop c | .scope c => firstReg c
  | _ => none

/-- A slot that is to hold a pointer's datum holds a box of the call's own: the box is only read from now on. -/
def frz1 (σ : St) (x : Slot × Ty × Option OwnK) : St :=
  match x with
  | (.tmp t, .ptr _, none) =>
    match σ.tm t with
    | some ([], .one (.adr id 0)) =>
      match σ.hp id with
      | some (_, cs) => match asDatas cs with
        | some (ds, ts) => ⟨upd σ.tm t (some ([], .one (.dat (.un .ptrc (.ofL ds)) (.ptr (.ofL ts))))), upd σ.hp id (some (true, cs)), σ.live⟩
        | none => σ
      | none => σ
    | _ => σ
  | _ => σ
def frzSt (l : List (Slot × Ty × Option OwnK)) (σ : St) : St := l.foldl frz1 σ

theorem Sim.frz1 {w0 : World} {S0 : Base} {C : Cx} {G : Gh} {σ : St} {a : Act} {w : World} {n : Nat} (hs : Sim n w0 S0 C G σ a w) (x : Slot × Ty × Option OwnK) : ∃ G', Sim n w0 S0 C G' (Eng.frz1 σ x) a w := by
  unfold Eng.frz1
  split
  · rename_i t fs
    split
    · rename_i id ht
      split
      · rename_i ro cs hid
        split
        · rename_i ds ts hds
          obtain ⟨G', hlat, hm, hcov, hβ, _⟩ := hs.m.freeze hid
          refine ⟨G', ⟨hm.congr rfl rfl, ?_, hs.sz, hs.defers⟩⟩
          have ht' := hs.t.later hlat
          intro t' c s h
          by_cases hti : t' = t
          · subst hti
            simp only [upd_same, Option.some.injEq, Prod.mk.injEq] at h
            obtain ⟨rfl, rfl⟩ := h
            obtain ⟨v, hv, _, _, hr⟩ := hs.t t' _ _ ht
            obtain ⟨_, _, ⟨vs, T, hgb, hrc⟩, _⟩ := hs.m.box _ _ _ hid
            obtain ⟨m1, m2, m3, m4, m5⟩ := asDatas_ok hds hrc
            have hd : den C.ρ (.un .ptrc (.ofL ds)) = .ptr (ds.map (den C.ρ)) := by simp only [den, den_ofL, U.den, D.toL]
            have hvv : v = .pointer (some ⟨G.β id, 0, none⟩) := by
              have : condB C.ρ ([] : Cond) = true := rfl
              rw [if_pos this] at hr
              exact hr.2
            refine ⟨v, hv, by simp, by simpa [SV.lt, SC.lt, E.lt] using m1, ?_⟩
            have : condB C.ρ ([] : Cond) = true := rfl
            rw [if_pos this]
            refine ⟨by simpa [E.lt] using m1, ?_, ?_⟩
            · rw [hd, hvv]
              refine .ptr _ vs _ (by simp [m2]) (fun i hi => hcov i (by simp [m2, hrc.1] at hi; exact hi)) (fun i v hi => ?_) (fun i v d hi hdd => ?_)
              · rw [cell_of_row w _ i _ T _ hgb]; simpa using hi
              · simp only [List.getElem?_map, Option.map_eq_some_iff] at hdd
                obtain ⟨e, he, rfl⟩ := hdd
                exact (m4 i v e hi he).keep hlat.S hlat.cell
            · rw [hd]; exact has_ptr.2 (.inr ⟨_, rfl, m5⟩)
          · simp only [upd_ne _ _ hti] at h
            exact ht' t' c s h
        · exact ⟨G, hs⟩
      · exact ⟨G, hs⟩
    · exact ⟨G, hs⟩
  · exact ⟨G, hs⟩
theorem Sim.frzSt {w0 : World} {S0 : Base} {C : Cx} {a : Act} {w : World} {n : Nat} : ∀ (l : List (Slot × Ty × Option OwnK)) {G : Gh} {σ : St}, Sim n w0 S0 C G σ a w → ∃ G', Sim n w0 S0 C G' (Eng.frzSt l σ) a w
  | [], G, _, h => ⟨G, h⟩
  | x :: l, _, _, h => by
    obtain ⟨G', h'⟩ := h.frz1 x
    exact Sim.frzSt l h'

structure En where
  P : Program
  cs : Tbl
  n : Nat
  anns : List (Nat × Ann)
  fw : FTbl
  wl : FTbl

def condE (σ : St) (P : Program) (x : Operand) : Option E :=
  match getD_ P σ [] x 0 with
  | some (e, .bool) => some e
  | _ => none

/-- A condition, as an expression. -/
def condEx : Cond → E
  | [] => .kbool true
  | [(e, true)] => e
  | (e, true) :: r => .bin .and e (condEx r)
  | (e, false) :: r => .bin .and (.un .not e) (condEx r)
/-- A region's operations, one behind the other; two ways where a guarded call is handed objects. -/
def regGo (N : En) (ops : Array Oper) (p0 M : Nat) (fin : List (Nat × Eff) → St → VC) : List Nat → List (Nat × Eff) → St → VC
  | [], acc, σ => fin acc σ
  | i :: r, acc, σ =>
    match ops[i]? with
    | none => .stuck 21
    | some o =>
      match effOpF N.P N.cs ops σ (p0 + i) o with
      | some e =>
        if e.ent.2.lt M && itemsB (p0 + i) (e.items.map fun it => (p0 + i, it)) then
          itemsVC (e.items.map fun it => (p0 + i, it)) (regGo N ops p0 M fin r (acc ++ [(i, e)]) (e.app σ))
        else .stuck (1000 + i)
      | none =>
        match guardOf ops σ o, (guardOf ops σ o).bind (fun pc => opOCall N.P N.cs σ pc o), effOpD (some true) N.P N.cs ops σ (p0 + i) o, effOpD (some false) N.P N.cs ops σ (p0 + i) o with
        | some pc, some x, some et, some ef =>
          if et.ent.2.lt M && ef.ent.2.lt M && (pc.all fun y => y.1.lt (p0 + i)) && x.args.lt (p0 + i) then
            .branch (condEx pc) (.call (p0 + i) x.k x.args [] (regGo N ops p0 M fin r (acc ++ [(i, et)]) (et.app σ))) (regGo N ops p0 M fin r (acc ++ [(i, ef)]) (ef.app σ))
          else .stuck (5000 + i)
        | _, _, _, _ => .stuck (2000 + i)

/-- Does a region end in a store into a slice's element? -/
def elemAdr (ops : Array Oper) : Nat → Nat → Bool
  | 0, _ => false
  | f + 1, t => ops.any fun o => o.dst == some t && match o.op with
    | .fieldAddr _ (.tmp x) _ => elemAdr ops f x
    | .indexAddr .. => true
    | _ => false
def wildEnd (ops : Array Oper) : Bool := decide (0 < ops.size) && match ops[ops.size - 1]? with
  | some o => match o.op with
    | .store _ (.tmp x) _ => elemAdr ops 10 x
    | _ => false
  | none => false
def isCallOf (l : FTbl) (o : Oper) : Bool := match o.op with
  | .call { callee := .value (.func k), .. } => (lk l k).isSome
  | _ => false
/-- Which of a region's operations is a call that makes something new, which is written over at once. -/
def cpIdx (N : En) (ops : Array Oper) (draw : Bool) : Option Nat :=
  if draw || N.cs.fr != 0 then none else (List.range ops.size).find? fun c => decide (c + 2 < ops.size) && match ops[c]?, ops[c + 2]? with
    | some o, some o2 => isCallOf N.fw o && isCallOf N.wl o2
    | _, _ => false
theorem cpIdx_ok {N : En} {ops : Array Oper} {draw : Bool} {c : Nat} (h : cpIdx N ops draw = some c) : draw = false ∧ N.cs.fr = 0 ∧ c + 2 < ops.size := by
  unfold cpIdx at h
  split at h
  · cases h
  · rename_i hd
    simp only [Bool.or_eq_true, not_or, Bool.not_eq_true, bne_iff_ne, ne_eq, Decidable.not_not] at hd
    have h2 := List.find?_some h
    simp only [Bool.and_eq_true, decide_eq_true_eq] at h2
    exact ⟨hd.1, hd.2, h2.1⟩

def isNq (o : Oper) : Bool := match o.op with
  | .binOp .eql _ _ y _ => nilOperand y
  | _ => false
def isStTmp (o : Oper) : Bool := match o.op with
  | .store _ _ (.tmp _) => true
  | _ => false
def nqEnd (ops : Array Oper) : Bool := match ops[ops.size - 1]? with
  | some o => isNq o
  | none => false
def wsEnd (N : En) (ops : Array Oper) : Bool := match ops[ops.size - 2]?, ops[ops.size - 1]? with
  | some o, some o2 => isCallOf N.wl o && isStTmp o2
  | _, _ => false
/-- A region's end of its own kind: from where on; which kind. -/
def tailIdx (N : En) (ops : Array Oper) (draw : Bool) : Option (Nat × Bool) :=
  if draw then none else
  if nqEnd ops = true ∧ 0 < ops.size then some (ops.size - 1, true)
  else if wsEnd N ops = true ∧ N.cs.fr = 2 ∧ 1 < ops.size then some (ops.size - 2, false)
  else none
theorem tailIdx_ok {N : En} {ops : Array Oper} {draw b : Bool} {c : Nat} (h : tailIdx N ops draw = some (c, b)) : draw = false ∧ (if b then c + 1 = ops.size else c + 2 = ops.size ∧ N.cs.fr = 2) := by
  unfold tailIdx at h
  split at h
  · cases h
  · rename_i hd
    refine ⟨by simpa using hd, ?_⟩
    split at h
    · rename_i h1
      simp only [Option.some.injEq, Prod.mk.injEq] at h
      obtain ⟨rfl, rfl⟩ := h
      simp only [if_true]; omega
    · split at h
      · rename_i h1
        simp only [Option.some.injEq, Prod.mk.injEq] at h
        obtain ⟨rfl, rfl⟩ := h
        simp only [Bool.false_eq_true, if_false]
        exact ⟨by omega, h1.2.1⟩
      · cases h
def dstsB (N : En) (ops : Array Oper) : Bool := ops.toList.all fun o => match o.dst with | some d => decide (d < N.n) | none => true

def vc (N : En) : Code → (Ex → St → Nat → Nat → VC) → St → Nat → Nat → VC
  | .skip, k, σ, p, d => k .normal σ p d
  | .label _, k, σ, p, d => k .normal σ p d
  | .exit i, k, σ, p, d => k (.exit i) σ p d
  | .ret, k, σ, p, d => k .ret σ p d
  | .region id ops draw, k, σ, p, d =>
    match tailIdx N ops draw with
    | some (c, true) => regGo N ops p (p + c) (fun _ σ1 => match (ops[c]?).bind (nqOp N.P N.n (p + c) σ1) with
        | some (t, e) =>
          if dstsB N ops then .branch (.bin .eq (.un .len e) (.kint .i64 0)) (.any (p + c) .bool (k .normal (setT σ1 t (.dat (.var (p + c)) .bool)) (p + ops.size) d)) (.any (p + c) .bool (k .normal (setT σ1 t (.dat (.kbool false) .bool)) (p + ops.size) d))
          else .stuck 9001
        | none => .stuck 9000) (List.range' 0 c) [] σ
    | some (c, false) => regGo N ops p (p + c) (fun _ σ1 => match ops[c]?, ops[c + 1]? with
        | some o1, some o2 => match wsOp N.P N.wl N.n σ1 o1 o2 with
          | some x => if dstsB N ops then .any (p + c) (.agg x.f) (k .normal (x.after σ1 (p + c)) (p + ops.size) d) else .stuck 9003
          | none => .stuck 9002
        | _, _ => .stuck 9004) (List.range' 0 c) [] σ
    | none =>
    if N.cs.fr == 2 && wildEnd ops then
      regGo N ops p (p + (ops.size - 1)) (fun r σ1 => match ops[ops.size - 1]? with
        | some o =>
          if hvOp N.P σ1 o && (!draw || (drawOk ops r && backB ops && (List.range (ops.size - 1)).all fun i => ordB ops ops.size i (ops.size - 1))) && (ops.toList.all fun o => match o.dst with | some d => decide (d < N.n) | none => true) then
            .hav (p + (ops.size - 1)) (hvFacts σ1 (p + (ops.size - 1))) (k .normal (hvSt σ1 (p + (ops.size - 1))) (p + ops.size) d)
          else .stuck (7000 + id)
        | none => .stuck 7001) (List.range' 0 (ops.size - 1)) [] σ
    else
    match cpIdx N ops draw with
    | some c => regGo N ops p (p + c) (fun _ σ1 => match cpOp N.P N.fw N.wl N.n σ1 ops c with
        | some x =>
          if x.args.lt (p + c) && (ops.toList.all fun o => match o.dst with | some d => decide (d < N.n) | none => true) then
            .call (p + c) x.k1 x.args [] (.any (p + c + 2) x.res (regGo N ops p (p + ops.size) (fun _ σ2 => k .normal σ2 (p + ops.size) d) (List.range' (c + 3) (ops.size - (c + 3))) [] (x.after σ1 (p + c + 2))))
          else .stuck 8001
        | none => .stuck 8000) (List.range' 0 c) [] σ
    | none =>
    match plIdx N.P N.cs σ ops draw with
    | some c => regGo N ops p (p + c) (fun _ σ1 =>
        match (ops[c]?).bind (opPl N.P N.cs N.n σ1) with
        | some x =>
          if x.e.lt (p + c) && (ops.toList.all fun o => match o.dst with | some d => decide (d < N.n) | none => true) then
            .call (p + c) x.k (.cons x.e .nil) [] (regGo N ops p (p + ops.size) (fun _ σ2 => k .normal σ2 (p + ops.size) d) (List.range' (c + 1) (ops.size - (c + 1))) [] (x.after σ1 (p + c)))
          else .stuck 6001
        | none => .stuck 6000) (List.range' 0 c) [] σ
    | none => regGo N ops p (p + ops.size) (fun r σ' =>
      if (!draw || (drawOk ops r && backB ops)) && (ops.toList.all fun o => match o.dst with | some d => decide (d < N.n) | none => true) then k .normal σ' (p + ops.size) d
      else .stuck (1000 + id)) (List.range ops.size) [] σ
  | .seq a b, k, σ, p, d => vc N a (fun ex σ p d => match ex with | .normal => vc N b k σ p d | e => k e σ p d) σ p d
  | .cond c x y, k, σ, p, d =>
    match condE σ N.P c with
    | some (.kbool true) => vc N x k σ p d
    | some (.kbool false) => vc N y k σ p d
    | some e => if e.lt p then .branch e (vc N x k σ p d) (vc N y k σ p d) else .stuck 1
    | none => .stuck 2
  | .block i c, k, σ, p, d => vc N c (fun ex σ p d => match ex with | .exit j => if j = i then k .normal σ p d else k (.exit j) σ p d | e => k e σ p d) σ p d
  | .loop c, k, σ, p, d =>
    let h := mkHead N.n (((firstReg c).bind (lk N.anns)).getD {}) ((((firstReg c).bind (lk N.anns)).getD {}).own.map (·.1) ++ assigned c) σ p
    match fitSt N.n h σ with
    | some es => .loop p es (h.slots.map fun x => slotTy x.2.1 x.2.2) (vc N c (fun ex σ' p' d' => match ex with
        | .normal => match fitSt N.n h (frzSt h.slots σ') with
          | some es' => .again (d' - 1 - d) es'
          | none => .stuck (3000 + p)
        | e => k e σ' p' d') h.st (p + h.size) (d + 1))
    | none => .stuck (4000 + p)
  | _, _, _, _, _ => .stuck 3

theorem E.lt_mono {n m : Nat} (h : n ≤ m) : ∀ {e : E}, e.lt n = true → e.lt m = true := by
  intro e
  induction e with
  | var i => intro he; simp only [E.lt, decide_eq_true_eq] at he ⊢; omega
  | kint | kbool | kstr | nilp | nil => intro _; rfl
  | cons a b iha ihb => intro he; simp only [E.lt, Bool.and_eq_true] at he ⊢; exact ⟨iha he.1, ihb he.2⟩
  | un o e ih => intro he; exact ih he
  | bin o a b iha ihb => intro he; simp only [E.lt, Bool.and_eq_true] at he ⊢; exact ⟨iha he.1, ihb he.2⟩
  | ite c a b ihc iha ihb => intro he; simp only [E.lt, Bool.and_eq_true] at he ⊢; exact ⟨⟨ihc he.1.1, iha he.1.2⟩, ihb he.2⟩

theorem condB_agree {ρ ρ' : Nat → D} {n : Nat} (h : ∀ i, i < n → ρ' i = ρ i) {c : Cond} (hc : (c.all fun x => x.1.lt n) = true) : condB ρ' c = condB ρ c := by
  unfold condB
  rw [List.all_eq_true] at hc
  rw [Bool.eq_iff_iff, List.all_eq_true, List.all_eq_true]
  constructor
  · intro H x hx; rw [← den_agree h (hc x hx)]; exact H x hx
  · intro H x hx; rw [den_agree h (hc x hx)]; exact H x hx

theorem items_hold {Φ : Nat → List D → D} {Pre : Nat → List D → Prop} {R : D → Prop} {k : VC} {stk : List (List D → Prop)} {N : Nat} {M : Nat → Prop} : ∀ {L : List (Nat × Item)} {lo : Nat} {ρ : Nat → D}, itemsB lo L = true → (∀ x ∈ L, x.1 < N) →
    (itemsVC L k).holds Φ Pre R ρ stk → ∃ ρ', (∀ i, i < lo → ρ' i = ρ i) ∧ (∀ x ∈ L, ItemOk ⟨ρ', N, M⟩ Φ Pre x.2) ∧ k.holds Φ Pre R ρ' stk
  | [], lo, ρ, _, _, h => ⟨ρ, fun _ _ => rfl, by simp, h⟩
  | (q, it) :: r, lo, ρ, hb, hN, h => by
    simp only [itemsB, Bool.and_eq_true, decide_eq_true_eq] at hb
    obtain ⟨⟨hlo, hit⟩, hr⟩ := hb
    have hN' : ∀ x ∈ r, x.1 < N := fun x hx => hN x (List.mem_cons_of_mem _ hx)
    have hq : q < N := hN (q, it) (List.mem_cons_self ..)
    cases it with
    | asm pc b => simp [itemB] at hit
    | obl pc e =>
      obtain ⟨h1, h2⟩ := h
      obtain ⟨ρ', a1, a2, a3⟩ := items_hold (lo := q) hr hN' h2
      simp only [itemB, Bool.and_eq_true] at hit
      refine ⟨ρ', fun i hi => a1 i (by omega), fun x hx => ?_, a3⟩
      rcases List.mem_cons.1 hx with rfl | hx
      · exact ⟨E.lt_mono (by show q ≤ N; omega) hit.2, fun hc => by
          show (den ρ' e).toB = true
          rw [den_agree a1 hit.2]; exact h1 ((condB_agree a1 hit.1).symm.trans hc)⟩
      · exact a2 x hx
    | call p f args pc =>
      obtain ⟨h1, h2⟩ := h
      simp only [itemB, Bool.and_eq_true, beq_iff_eq] at hit
      obtain ⟨⟨rfl, hargs⟩, hpc⟩ := hit
      obtain ⟨ρ', a1, a2, a3⟩ := items_hold (lo := p + 1) hr hN' (h2 _ rfl)
      have agree : ∀ i, i < p → ρ' i = ρ i := fun i hi => (a1 i (by omega)).trans (upd_ne _ _ (by omega))
      refine ⟨ρ', fun i hi => agree i (by omega), fun x hx => ?_, a3⟩
      rcases List.mem_cons.1 hx with rfl | hx
      · refine ⟨E.lt_mono (by show p ≤ N; omega) hargs, hq, ?_, fun hc => ?_⟩
        · show ρ' p = Φ f (den ρ' args).toL
          rw [a1 p (by omega), upd_same, den_agree agree hargs]
        · show Pre f (den ρ' args).toL
          rw [den_agree agree hargs]; exact h1 ((condB_agree agree hpc).symm.trans hc)
      · exact a2 x hx
    | room pc e b =>
      obtain ⟨h1, h2⟩ := h
      obtain ⟨ρ', a1, a2, a3⟩ := items_hold (lo := q) hr hN' h2
      simp only [itemB, Bool.and_eq_true] at hit
      refine ⟨ρ', fun i hi => a1 i (by omega), fun x hx => ?_, a3⟩
      rcases List.mem_cons.1 hx with rfl | hx
      · exact ⟨E.lt_mono (by show q ≤ N; omega) hit.2, fun hc => by
          show (den ρ' e).toL.length ≤ maxLen ∧ (den ρ' e).toL.length * b ≤ _
          rw [den_agree a1 hit.2]; exact h1 ((condB_agree a1 hit.1).symm.trans hc)⟩
      · exact a2 x hx

theorem condEx_den {ρ : Nat → D} : ∀ {pc : Cond}, (den ρ (condEx pc)).toB = condB ρ pc
  | [] => rfl
  | [(e, true)] => by simp [condEx, condB]
  | [(e, false)] => by simp [condEx, condB, den, B.den, U.den, D.toB]
  | (e, true) :: x :: r => by
    have := condEx_den (ρ := ρ) (pc := x :: r)
    show ((den ρ e).toB && (den ρ (condEx (x :: r))).toB) = _
    rw [this]
    simp [condB]
  | (e, false) :: x :: r => by
    have := condEx_den (ρ := ρ) (pc := x :: r)
    show (!(den ρ e).toB && (den ρ (condEx (x :: r))).toB) = _
    rw [this]
    simp [condB]
theorem itemsB_all : ∀ {L : List (Nat × Item)} {lo : Nat}, itemsB lo L = true → ∀ x ∈ L, itemB x.1 x.2 = true
  | [], _, _, x, hx => by simp at hx
  | (q, it) :: r, lo, h, x, hx => by
    simp only [itemsB, Bool.and_eq_true] at h
    rcases List.mem_cons.1 hx with rfl | hx
    · exact h.1.2
    · exact itemsB_all h.2 x hx
theorem itemOk_agree {Φ : Nat → List D → D} {Pre : Nat → List D → Prop} {ρ ρ' : Nat → D} {N q : Nat} {M : Nat → Prop} {it : Item} (h : ItemOk ⟨ρ, N, M⟩ Φ Pre it) (hb : itemB q it = true) (hag : ∀ i, i < q + 1 → ρ' i = ρ i) : ItemOk ⟨ρ', N, M⟩ Φ Pre it := by
  have hag' : ∀ i, i < q → ρ' i = ρ i := fun i hi => hag i (by omega)
  cases it with
  | asm pc b => simp [itemB] at hb
  | obl pc e =>
    simp only [itemB, Bool.and_eq_true] at hb
    refine ⟨h.1, fun hc => ?_⟩
    show (den ρ' e).toB = true
    rw [den_agree hag' hb.2]
    exact h.2 ((condB_agree hag' hb.1).symm.trans hc)
  | call p f args pc =>
    simp only [itemB, Bool.and_eq_true, beq_iff_eq] at hb
    obtain ⟨⟨rfl, hargs⟩, hpc⟩ := hb
    obtain ⟨h1, h2, h3, h4⟩ := h
    refine ⟨h1, h2, ?_, fun hc => ?_⟩
    · show ρ' p = Φ f (den ρ' args).toL
      rw [hag p (by omega), den_agree hag' hargs]; exact h3
    · show Pre f (den ρ' args).toL
      rw [den_agree hag' hargs]; exact h4 ((condB_agree hag' hpc).symm.trans hc)
  | room pc e b =>
    simp only [itemB, Bool.and_eq_true] at hb
    refine ⟨h.1, fun hc => ?_⟩
    show (den ρ' e).toL.length ≤ maxLen ∧ (den ρ' e).toL.length * b ≤ _
    rw [den_agree hag' hb.2]
    exact h.2 ((condB_agree hag' hb.1).symm.trans hc)

theorem regGo_hold {N : En} {Φ : Nat → List D → D} {Pre : Nat → List D → Prop} {R : D → Prop} {ops : Array Oper} {p0 M : Nat} {MM : Nat → Prop} {fin : List (Nat × Eff) → St → VC} {stk : List (List D → Prop)} :
    ∀ (n s : Nat) (acc : List (Nat × Eff)) (σ : St) (ρ : Nat → D), (regGo N ops p0 M fin (List.range' s n) acc σ).holds Φ Pre R ρ stk → p0 + s + n ≤ M →
      ∃ (ρ' : Nat → D) (r : List (Nat × Eff)) (σ' : St), (∀ i, i < p0 + s → ρ' i = ρ i) ∧ Runs N.P N.cs ops p0 M r σ σ' ∧ r.map (·.1) = List.range' s n ∧ (∀ x ∈ r, ∀ it ∈ x.2.items, ItemOk ⟨ρ', M, MM⟩ Φ Pre it) ∧ (fin (acc ++ r) σ').holds Φ Pre R ρ' stk
  | 0, s, acc, σ, ρ, h, _ => ⟨ρ, [], σ, fun _ _ => rfl, .nil σ, rfl, by simp, by rw [List.append_nil]; exact h⟩
  | n + 1, s, acc, σ, ρ, h, hM => by
    rw [List.range'_succ] at h ⊢
    simp only [regGo] at h
    split at h
    · exact h.elim
    · rename_i o ho
      split at h
      · rename_i e he
        split at h
        · rename_i hc
          simp only [Bool.and_eq_true] at hc
          obtain ⟨hlt, hib⟩ := hc
          obtain ⟨ρ1, a1, a2, a3⟩ := items_hold (N := M) (M := MM) hib (fun x hx => by
            obtain ⟨it, _, rfl⟩ := List.mem_map.1 hx
            show p0 + s < M; omega) h
          obtain ⟨ρ', r, σ', b1, b2, b3, b4, b5⟩ := regGo_hold n (s + 1) _ _ ρ1 a3 (by omega)
          refine ⟨ρ', (s, e) :: r, σ', fun i hi => (b1 i (by omega)).trans (a1 i hi), .cons ho ⟨none, he⟩ hlt b2, by simp [b3], ?_, by simpa using b5⟩
          intro x hx it hit
          rcases List.mem_cons.1 hx with rfl | hx
          · have hm : (p0 + s, it) ∈ e.items.map fun it => (p0 + s, it) := List.mem_map.2 ⟨it, hit, rfl⟩
            exact itemOk_agree (a2 _ hm) (itemsB_all hib _ hm) (fun i hi => b1 i (by show i < p0 + (s + 1); have : i < p0 + s + 1 := hi; omega))
          · exact b4 x hx it hit
        · exact h.elim
      · split at h
        · rename_i pc x et ef hg hx het hef
          split at h
          · rename_i hc
            simp only [Bool.and_eq_true] at hc
            obtain ⟨⟨⟨hlt, hlf⟩, hpc⟩, hargs⟩ := hc
            obtain ⟨h1, h2⟩ := h
            rw [condEx_den] at h1 h2
            have agree : ∀ ρ' : Nat → D, (∀ i, i < p0 + s → ρ' i = ρ i) → condB ρ' pc = condB ρ pc := fun ρ' hag => condB_agree hag hpc
            cases hb : condB ρ pc with
            | true =>
              obtain ⟨k1, k2⟩ := h1 hb
              have k3 := k2 _ rfl
              obtain ⟨ρ', r, σ', b1, b2, b3, b4, b5⟩ := regGo_hold n (s + 1) _ _ _ k3 (by omega)
              have ag : ∀ i, i < p0 + s → ρ' i = ρ i := fun i hi => (b1 i (by omega)).trans (upd_ne _ _ (by omega))
              refine ⟨ρ', (s, et) :: r, σ', ag, .cons ho ⟨some true, het⟩ hlt b2, by simp [b3], ?_, by simpa using b5⟩
              intro y hy it hit
              rcases List.mem_cons.1 hy with rfl | hy
              · rw [hg, Option.bind_some] at hx
                unfold effOpD at het
                simp only [hg, hx] at het
                split at het
                · cases het
                injection het with het
                rw [← het] at hit
                simp only [List.mem_cons, List.not_mem_nil, or_false] at hit
                rcases hit with rfl | rfl
                · show condB ρ' pc = true
                  rw [agree ρ' ag, hb]
                · refine ⟨E.lt_mono (by show p0 + s ≤ M; omega) hargs, by show p0 + s < M; omega, ?_, fun _ => ?_⟩
                  · show ρ' (p0 + s) = Φ x.k (den ρ' x.args).toL
                    rw [b1 (p0 + s) (by omega), upd_same, den_agree ag hargs]
                  · show Pre x.k (den ρ' x.args).toL
                    rw [den_agree ag hargs]; exact k1 rfl
              · exact b4 y hy it hit
            | false =>
              obtain ⟨ρ', r, σ', b1, b2, b3, b4, b5⟩ := regGo_hold n (s + 1) _ _ _ (h2 hb) (by omega)
              have ag : ∀ i, i < p0 + s → ρ' i = ρ i := fun i hi => b1 i (by omega)
              refine ⟨ρ', (s, ef) :: r, σ', ag, .cons ho ⟨some false, hef⟩ hlf b2, by simp [b3], ?_, by simpa using b5⟩
              intro y hy it hit
              rcases List.mem_cons.1 hy with rfl | hy
              · unfold effOpD at hef
                simp only [hg] at hef
                split at hef
                · rename_i pc' sig hpc' _
                  injection hpc' with hpc'; subst hpc'
                  injection hef with hef
                  rw [← hef] at hit
                  simp only [List.mem_cons, List.not_mem_nil, or_false] at hit
                  subst hit
                  show condB ρ' pc = false
                  rw [agree ρ' ag, hb]
                · cases hef
              · exact b4 y hy it hit
          · exact h.elim
        · exact h.elim

section
variable {w0 : World} {S0 : Base} {C : Cx} {G : Gh} {σ : St} {a : Act} {w : World} {n : Nat}

theorem Sim.drew (h : Sim n w0 S0 C G σ a w) : Sim n w0 S0 C G σ a { w with drawn := w.drawn + 1 } := by
  have hlat : Later C w G C { w with drawn := w.drawn + 1 } G := ⟨fun _ h => ⟨rfl, h⟩, fun _ h => h, fun _ _ h => h, fun _ _ _ => rfl, fun _ _ => rfl, fun _ _ => rfl⟩
  refine ⟨⟨h.m.below.drew, h.m.foot0, h.m.keep, h.m.pin, h.m.pinmu, h.m.footlt, h.m.footnew, h.m.boxM, ?_, h.m.inj, ?_, h.m.ownnew, h.m.ownne, h.m.ownbox, h.m.fresh_later hlat rfl (fun _ _ _ => rfl) (fun _ _ h _ => h), h.m.wz⟩, h.t.later hlat, h.sz, h.defers⟩
  · intro id ro cs hx
    obtain ⟨h1, h2, ⟨vs, T, h3, h4⟩, h5⟩ := h.m.box id ro cs hx
    exact ⟨h1, h2, ⟨vs, T, h3, h4.later hlat⟩, h5⟩
  · intro g e T t hx
    exact (h.m.own g e T t hx).later hlat (fun _ _ => rfl) (fun _ _ _ h => h)

/-- A body's condition is enough. -/
theorem vc_sound {N : En} {Φ : Nat → List D → D} {Pre : Nat → List D → Prop} {R : D → Prop} (hmix : N.P.follows .mixedOrders = true) (hcon : ∀ k sig, lk N.cs.l k = some sig → PureFn N.P k sig (Pre k) (Φ k))
    (hfl : ∀ k sig ob, lk N.cs.l k = some sig → sig.ob = some ob → ob.isPl = true → ∀ b o, S0.foot b o → ¬ NewB w0 S0 b) (hcf : (S0.fr → N.cs.fr = 1) ∧ (S0.wz → N.cs.fr = 2)) (hfw : ∀ k y, lk N.fw k = some y → FreshFn N.P k y.1 y.2 (fun _ => True) (Φ k)) (hwl : ∀ k y, lk N.wl k = some y → WildFn N.P k y.1 y.2)
    (hwz : N.cs.fr = 2 → (∀ b o, ¬ S0.foot b o) ∧ S0.wz) :
    ∀ (c : Code) (k : Ex → St → Nat → Nat → VC) (σ : St) (p d : Nat) (ρ : Nat → D) (stk : List (List D → Prop)) (Q : Exit → Act → World → Prop), (vc N c k σ p d).holds Φ Pre R ρ stk → stk.length = d → (∀ i b, S0.pin i = some b → i < p) →
    (∀ ex σ' p' d' ρ' stk' a w G, p ≤ p' → (∀ i, i < p → ρ' i = ρ i) → stk'.length = d' → (∃ l, stk' = l ++ stk) → (k ex σ' p' d').holds Φ Pre R ρ' stk' → Sim N.n w0 S0 ⟨ρ', p', fun i => i < p'⟩ G σ' a w → Q ex.to a w) →
    ∀ a w G, Sim N.n w0 S0 ⟨ρ, p, fun i => i < p⟩ G σ a w → c.wp N.P Q a w := by
  intro c
  induction c with
  | skip => intro k σ p d ρ stk Q h hd hpin hk a w G hs; exact wp_skip (hk .normal _ _ _ _ _ a w G (Nat.le_refl _) (fun _ _ => rfl) hd ⟨[], rfl⟩ h hs)
  | label l => intro k σ p d ρ stk Q h hd hpin hk a w G hs; exact wp_label (hk .normal _ _ _ _ _ a w G (Nat.le_refl _) (fun _ _ => rfl) hd ⟨[], rfl⟩ h hs)
  | exit i => intro k σ p d ρ stk Q h hd hpin hk a w G hs; exact wp_exit (hk (.exit i) _ _ _ _ _ a w G (Nat.le_refl _) (fun _ _ => rfl) hd ⟨[], rfl⟩ h hs)
  | ret => intro k σ p d ρ stk Q h hd hpin hk a w G hs; exact wp_ret (hk .ret _ _ _ _ _ a w G (Nat.le_refl _) (fun _ _ => rfl) hd ⟨[], rfl⟩ h hs)
  | region id ops draw =>
    intro k σ p d ρ stk Q h hd hpin hk a w G hs
    simp only [vc] at h
    split at h
    · rename_i c hx
      obtain ⟨rfl, hcl⟩ := tailIdx_ok hx
      simp only [if_true] at hcl
      obtain ⟨ρ1, r1, σ1, hag1, hruns1, hmap1, hits1, hf1⟩ := regGo_hold (MM := fun i => i < p) c 0 [] σ ρ h (by omega)
      rw [Nat.add_zero] at hag1
      split at hf1
      · rename_i t e hxo
        rw [Option.bind_eq_some_iff] at hxo
        obtain ⟨o, ho, hxo⟩ := hxo
        split at hf1
        · rename_i hdst
          simp only [dstsB] at hdst
          have hdst' : ∀ (i : Nat) (o : Oper) (dd : Nat), ops[i]? = some o → o.dst = some dd → dd < N.n := fun i o dd ho hod => by
            have := List.all_eq_true.1 hdst o (by simpa using Array.mem_of_getElem? ho)
            rw [hod] at this; simpa using this
          have hr1 : ∀ y ∈ r1, y.1 < c := fun y hy => by
            have : y.1 ∈ List.range' 0 c := by rw [← hmap1]; exact List.mem_map.2 ⟨y, hy, rfl⟩
            rw [List.mem_range'_1] at this; omega
          have hlat1 : Later ⟨ρ, p, fun i => i < p⟩ w G ⟨ρ1, p + c, fun i => i < p⟩ w G :=
            ⟨fun e he => ⟨den_agree hag1 he, E.lt_mono (Nat.le_add_right _ _) he⟩, fun _ h => h, fun _ _ h => h, fun _ _ _ => rfl, fun _ _ => rfl, fun _ _ => rfl⟩
          have hok1 : RunOk N.P N.cs ops p N.n S0 ⟨ρ1, p + c, fun i => i < p⟩ Φ Pre r1 :=
            ⟨hcon, hits1, fun y hy => by have := hr1 y hy; show p + y.1 < p + c; omega, hdst', hcf⟩
          refine wp_region ?_
          have hsplit : List.range ops.size = r1.map (·.1) ++ List.range' c (ops.size - c) := by
            rw [hmap1, List.range_eq_range']
            have h2 := List.range'_append_1 (s := 0) (m := c) (n := ops.size - c)
            rw [Nat.zero_add] at h2
            rw [h2]; congr 1; omega
          rw [hsplit]
          refine wpOps_runs_rest _ hruns1 hok1 (hs.later_same hlat1) (by rw [hmap1]; exact List.nodup_range') (fun y hy h => by
            have h' : p + y.1 < p := h
            omega) ?_
          intro a1 w1 G1 M1 hM1 hs1
          have hs1' := hs1.later_same (Later.moreM ⟨ρ1, p + c, M1⟩ w1 G1 (M' := fun i => i < p + c) (fun i hi => by
            rcases hM1 i hi with h | ⟨y, hy, rfl⟩
            · have h' : i < p := h
              show i < p + c; omega
            · have := hr1 y hy; show p + y.1 < p + c; omega))
          have hone : List.range' c (ops.size - c) = [c] := by rw [show ops.size - c = 1 by omega]; rfl
          rw [hone]
          obtain ⟨g1, g2⟩ := hf1
          have hdl : (den ρ1 (.bin .eq (.un .len e) (.kint .i64 0))).toB = decide ((den ρ1 e).toL.length = 0) := by
            show ((((den ρ1 e).toL.length : Nat) : Int) == 0) = _
            rw [Bool.eq_iff_iff]; simp
          refine nqOp_ok ho hxo hs1' Q [] (fun hl0 b a2 hs2 => ?_) (fun hl0 a2 hs2 => ?_)
          · have h3 := g1 (by rw [hdl]; exact decide_eq_true hl0) (.bool b) (has_bool.2 ⟨_, rfl⟩)
            have e1 : p + c + 1 = p + ops.size := by omega
            rw [e1] at hs2
            exact hk .normal _ (p + ops.size) d _ stk a2 w1 G1 (Nat.le_add_right _ _) (fun i hi => (upd_ne _ _ (by omega)).trans (hag1 i hi)) hd ⟨[], rfl⟩ h3 hs2
          · have h3 := g2 (by rw [hdl]; exact decide_eq_false hl0) (.bool false) (has_bool.2 ⟨_, rfl⟩)
            have e1 : p + c + 1 = p + ops.size := by omega
            rw [e1] at hs2
            exact hk .normal _ (p + ops.size) d _ stk a2 w1 G1 (Nat.le_add_right _ _) (fun i hi => (upd_ne _ _ (by omega)).trans (hag1 i hi)) hd ⟨[], rfl⟩ h3 hs2
        · exact hf1.elim
      · exact hf1.elim
    · rename_i c hx
      obtain ⟨rfl, hcl, hfr2⟩ := tailIdx_ok hx
      obtain ⟨hnofoot, hwz'⟩ := hwz hfr2
      have hnf : ¬ S0.fr := fun hff => by have := hcf.1 hff; omega
      obtain ⟨ρ1, r1, σ1, hag1, hruns1, hmap1, hits1, hf1⟩ := regGo_hold (MM := fun i => i < p) c 0 [] σ ρ h (by omega)
      rw [Nat.add_zero] at hag1
      split at hf1
      · rename_i o1 o2 ho1 ho2
        split at hf1
        · rename_i x hxo
          split at hf1
          · rename_i hdst
            simp only [dstsB] at hdst
            have hdst' : ∀ (i : Nat) (o : Oper) (dd : Nat), ops[i]? = some o → o.dst = some dd → dd < N.n := fun i o dd ho hod => by
              have := List.all_eq_true.1 hdst o (by simpa using Array.mem_of_getElem? ho)
              rw [hod] at this; simpa using this
            have hr1 : ∀ y ∈ r1, y.1 < c := fun y hy => by
              have : y.1 ∈ List.range' 0 c := by rw [← hmap1]; exact List.mem_map.2 ⟨y, hy, rfl⟩
              rw [List.mem_range'_1] at this; omega
            have hlat1 : Later ⟨ρ, p, fun i => i < p⟩ w G ⟨ρ1, p + c, fun i => i < p⟩ w G :=
              ⟨fun e he => ⟨den_agree hag1 he, E.lt_mono (Nat.le_add_right _ _) he⟩, fun _ h => h, fun _ _ h => h, fun _ _ _ => rfl, fun _ _ => rfl, fun _ _ => rfl⟩
            have hok1 : RunOk N.P N.cs ops p N.n S0 ⟨ρ1, p + c, fun i => i < p⟩ Φ Pre r1 :=
              ⟨hcon, hits1, fun y hy => by have := hr1 y hy; show p + y.1 < p + c; omega, hdst', hcf⟩
            refine wp_region ?_
            have hsplit : List.range ops.size = r1.map (·.1) ++ List.range' c (ops.size - c) := by
              rw [hmap1, List.range_eq_range']
              have h2 := List.range'_append_1 (s := 0) (m := c) (n := ops.size - c)
              rw [Nat.zero_add] at h2
              rw [h2]; congr 1; omega
            rw [hsplit]
            refine wpOps_runs_rest _ hruns1 hok1 (hs.later_same hlat1) (by rw [hmap1]; exact List.nodup_range') (fun y hy h => by
              have h' : p + y.1 < p := h
              omega) ?_
            intro a1 w1 G1 M1 hM1 hs1
            have hs1' := hs1.later_same (Later.moreM ⟨ρ1, p + c, M1⟩ w1 G1 (M' := fun i => i < p + c) (fun i hi => by
              rcases hM1 i hi with h | ⟨y, hy, rfl⟩
              · have h' : i < p := h
                show i < p + c; omega
              · have := hr1 y hy; show p + y.1 < p + c; omega))

            have hone : List.range' c (ops.size - c) = [c, c + 1] := by rw [show ops.size - c = 2 by omega]; rfl
            rw [hone]
            refine wsOp_ok ho1 ho2 hxo hs1' hwl hnofoot hnf hwz' [] Q (fun dd a2 w2 G2 hhd hs2 => ?_)
            have h3 := hf1 dd hhd
            have hlat3 : Later ⟨upd ρ1 (p + c) dd, p + c + 1, fun i => i < p + c + 1⟩ w2 G2 ⟨upd ρ1 (p + c) dd, p + ops.size, fun i => i < p + ops.size⟩ w2 G2 :=
              ⟨fun e he => ⟨rfl, E.lt_mono (by show p + c + 1 ≤ p + ops.size; omega) he⟩, fun i hi => by
                have hi' : i < p + c + 1 := hi
                show i < p + ops.size; omega, fun _ _ h => h, fun _ _ _ => rfl, fun _ _ => rfl, fun _ _ => rfl⟩
            exact hk .normal _ (p + ops.size) d _ stk a2 w2 G2 (Nat.le_add_right _ _) (fun i hi => (upd_ne _ _ (by omega)).trans (hag1 i hi)) hd ⟨[], rfl⟩ h3 (hs2.later_same hlat3)
          · exact hf1.elim
        · exact hf1.elim
      · exact hf1.elim
    split at h
    · rename_i hwe
      simp only [Bool.and_eq_true, beq_iff_eq] at hwe
      obtain ⟨hfr2, hwe⟩ := hwe
      have hpos : 0 < ops.size := by
        unfold wildEnd at hwe
        simp only [Bool.and_eq_true, decide_eq_true_eq] at hwe
        exact hwe.1
      obtain ⟨hnofoot, hwz'⟩ := hwz hfr2
      have hnf : ¬ S0.fr := fun hff => by have := hcf.1 hff; omega
      obtain ⟨ρ1, r1, σ1, hag1, hruns1, hmap1, hits1, hf1⟩ := regGo_hold (MM := fun i => i < p) (ops.size - 1) 0 [] σ ρ h (by omega)
      rw [Nat.add_zero] at hag1
      rw [List.nil_append] at hf1
      split at hf1
      · rename_i o ho
        split at hf1
        · rename_i hc
          simp only [Bool.and_eq_true] at hc
          obtain ⟨⟨hhv, hdraw⟩, hdst⟩ := hc
          have hdst' : ∀ (i : Nat) (o : Oper) (dd : Nat), ops[i]? = some o → o.dst = some dd → dd < N.n := fun i o dd ho hod => by
            have := List.all_eq_true.1 hdst o (by simpa using Array.mem_of_getElem? ho)
            rw [hod] at this; simpa using this
          have hr1 : ∀ y ∈ r1, y.1 < ops.size - 1 := fun y hy => by
            have : y.1 ∈ List.range' 0 (ops.size - 1) := by rw [← hmap1]; exact List.mem_map.2 ⟨y, hy, rfl⟩
            rw [List.mem_range'_1] at this; omega
          have hlat1 : Later ⟨ρ, p, fun i => i < p⟩ w G ⟨ρ1, p + (ops.size - 1), fun i => i < p⟩ w G :=
            ⟨fun e he => ⟨den_agree hag1 he, E.lt_mono (Nat.le_add_right _ _) he⟩, fun _ h => h, fun _ _ h => h, fun _ _ _ => rfl, fun _ _ => rfl, fun _ _ => rfl⟩
          have hok1 : RunOk N.P N.cs ops p N.n S0 ⟨ρ1, p + (ops.size - 1), fun i => i < p⟩ Φ Pre r1 :=
            ⟨hcon, hits1, fun y hy => by have := hr1 y hy; show p + y.1 < p + (ops.size - 1); omega, hdst', hcf⟩
          have hMr : ∀ y ∈ r1, ¬ (fun i => i < p) (p + y.1) := fun y _ h => by
            have h' : p + y.1 < p := h
            omega
          have hnd : (r1.map (·.1)).Nodup := by rw [hmap1]; exact List.nodup_range'
          have fin : ∀ a1 w1 G1 M1, (∀ i, M1 i → i < p ∨ ∃ y ∈ r1, i = p + y.1) → Sim N.n w0 S0 ⟨ρ1, p + (ops.size - 1), M1⟩ G1 σ1 a1 w1 → ∀ next : Act → World → Prop, (∀ a2 w2, Q .normal a2 w2 → next a2 w2) → Region.wanted o (yielded ops a1.tmps) = true ∧ o.wp N.P a1 w1 next Q := by
            intro a1 w1 G1 M1 hM1 hs1 next hnext
            have hs1' := hs1.later_same (Later.moreM ⟨ρ1, p + (ops.size - 1), M1⟩ w1 G1 (M' := fun i => i < p + (ops.size - 1)) (fun i hi => by
              rcases hM1 i hi with h | ⟨y, hy, rfl⟩
              · show i < p + (ops.size - 1); omega
              · have := hr1 y hy; show p + y.1 < p + (ops.size - 1); omega))
            refine hvOp_ok hhv hs1' hnofoot hnf hwz' next Q (fun x w2 hx hs2 => hnext a1 w2 ?_)
            have hs3 : Sim N.n w0 S0 ⟨upd ρ1 (p + (ops.size - 1)) x, p + ops.size, fun i => i < p + ops.size⟩ G1 (hvSt σ1 (p + (ops.size - 1))) a1 w2 := by
              have e : p + (ops.size - 1) + 1 = p + ops.size := by omega
              rw [e] at hs2; exact hs2
            exact hk .normal _ (p + ops.size) d _ stk a1 w2 G1 (Nat.le_add_right _ _) (fun i hi => (upd_ne _ _ (by omega)).trans (hag1 i hi)) hd ⟨[], rfl⟩ (hf1 x hx) hs3
          cases draw with
          | false =>
            refine wp_region ?_
            have hsplit : List.range ops.size = r1.map (·.1) ++ [ops.size - 1] := by
              rw [hmap1, List.range_eq_range']
              have h2 := List.range'_append_1 (s := 0) (m := ops.size - 1) (n := 1)
              rw [Nat.zero_add, show ops.size - 1 + 1 = ops.size by omega] at h2
              rw [← h2]; rfl
            rw [hsplit]
            refine wpOps_runs_rest _ hruns1 hok1 (hs.later_same hlat1) hnd hMr ?_
            intro a1 w1 G1 M1 hM1 hs1
            obtain ⟨hw, hwp⟩ := fin a1 w1 G1 M1 hM1 hs1 (wpOps N.P ops Q []) (fun _ _ h => h)
            simp only [wpOps, ho]
            rw [if_pos hw]
            exact .inl hwp
          | true =>
            simp only [Bool.not_true, Bool.false_or, Bool.and_eq_true] at hdraw
            obtain ⟨⟨hd1, hd2⟩, hd3⟩ := hdraw
            refine wp_region_any hmix ?_
            have hrl : r1.length = ops.size - 1 := by have := congrArg List.length hmap1; simpa using this
            refine wpAny_runs_last ho ops.size hruns1 hok1 (hs.later_same hlat1).drew hnd hMr hd1 (by simp) ?_ (by omega) ?_ ?_ hd2 fin
            · intro j o ho hj
              have hjl : j < ops.size := (Array.getElem?_eq_some_iff.1 ho).1
              simp [hjl] at hj
            · intro i hi
              rw [hmap1]
              simp only [List.mem_range'_1, Nat.zero_le, true_and, Nat.zero_add]
              constructor
              · intro _; omega
              · intro _; simp [hi]
            · intro y hy
              have hyl := hr1 y hy
              exact ⟨by omega, by omega, by
                have := List.all_eq_true.1 hd3 y.1 (List.mem_range.2 hyl)
                exact this⟩
        · exact hf1.elim
      · exact hf1.elim
    split at h
    · rename_i c hx
      obtain ⟨rfl, hncf, hcl⟩ := cpIdx_ok hx
      have hnf : ¬ S0.fr := fun hff => by have := hcf.1 hff; rw [hncf] at this; cases this
      have hnw : ¬ S0.wz := fun hff => by have := hcf.2 hff; rw [hncf] at this; cases this
      obtain ⟨ρ1, r1, σ1, hag1, hruns1, hmap1, hits1, hf1⟩ := regGo_hold (MM := fun i => i < p) c 0 [] σ ρ h (by omega)
      rw [Nat.add_zero] at hag1
      split at hf1
      · rename_i x hxo
        split at hf1
        · rename_i hc
          simp only [Bool.and_eq_true] at hc
          obtain ⟨hxl, hdst⟩ := hc
          obtain ⟨_, h2⟩ := hf1
          have h2' := h2 _ rfl
          have hdst' : ∀ (i : Nat) (o : Oper) (dd : Nat), ops[i]? = some o → o.dst = some dd → dd < N.n := fun i o dd ho hod => by
            have := List.all_eq_true.1 hdst o (by simpa using Array.mem_of_getElem? ho)
            rw [hod] at this; simpa using this
          have hr1 : ∀ y ∈ r1, y.1 < c := fun y hy => by
            have : y.1 ∈ List.range' 0 c := by rw [← hmap1]; exact List.mem_map.2 ⟨y, hy, rfl⟩
            rw [List.mem_range'_1] at this; omega
          have hlat1 : Later ⟨ρ, p, fun i => i < p⟩ w G ⟨ρ1, p + c, fun i => i < p⟩ w G :=
            ⟨fun e he => ⟨den_agree hag1 he, E.lt_mono (Nat.le_add_right _ _) he⟩, fun _ h => h, fun _ _ h => h, fun _ _ _ => rfl, fun _ _ => rfl, fun _ _ => rfl⟩
          have hok1 : RunOk N.P N.cs ops p N.n S0 ⟨ρ1, p + c, fun i => i < p⟩ Φ Pre r1 :=
            ⟨hcon, hits1, fun y hy => by have := hr1 y hy; show p + y.1 < p + c; omega, hdst', hcf⟩
          refine wp_region ?_
          have hsplit : List.range ops.size = r1.map (·.1) ++ (c :: (c + 1) :: (c + 2) :: List.range' (c + 3) (ops.size - (c + 3))) := by
            rw [hmap1, List.range_eq_range']
            have h1 : c :: (c + 1) :: (c + 2) :: List.range' (c + 3) (ops.size - (c + 3)) = List.range' c (ops.size - (c + 3) + 1 + 1 + 1) := by rw [List.range'_succ, List.range'_succ, List.range'_succ]
            have h2 := List.range'_append_1 (s := 0) (m := c) (n := ops.size - (c + 3) + 1 + 1 + 1)
            rw [Nat.zero_add] at h2
            rw [h1, h2]
            congr 1; omega
          rw [hsplit]
          refine wpOps_runs_rest _ hruns1 hok1 (hs.later_same hlat1) (by rw [hmap1]; exact List.nodup_range') (fun y hy h => by
            have h' : p + y.1 < p := h
            omega) ?_
          intro a1 w1 G1 M1 hM1 hs1
          have hs1' := hs1.later_same (Later.moreM ⟨ρ1, p + c, M1⟩ w1 G1 (M' := fun i => i < p + c) (fun i hi => by
            rcases hM1 i hi with h | ⟨y, hy, rfl⟩
            · have h' : i < p := h
              show i < p + c; omega
            · have := hr1 y hy; show p + y.1 < p + c; omega))
          refine cpOp_ok hxo hs1' hfw hwl hnf hnw (Φ x.k1 (den ρ1 x.args).toL) _ Q (fun d2 a2 w2 G2 hhd hs2 => ?_)
          have h3 := h2' d2 hhd
          obtain ⟨ρ2, r2, σ2, hag2, hruns2, hmap2, hits2, hf2⟩ := regGo_hold (MM := fun i => i < p + c + 3) (ops.size - (c + 3)) (c + 3) [] _ _ h3 (by omega)
          have hr2 : ∀ y ∈ r2, c + 3 ≤ y.1 ∧ y.1 < ops.size := fun y hy => by
            have : y.1 ∈ List.range' (c + 3) (ops.size - (c + 3)) := by rw [← hmap2]; exact List.mem_map.2 ⟨y, hy, rfl⟩
            rw [List.mem_range'_1] at this; omega
          rw [← hmap2, ← List.append_nil (r2.map (·.1))]
          have hlat2 : Later ⟨upd (upd ρ1 (p + c) (Φ x.k1 (den ρ1 x.args).toL)) (p + c + 2) d2, p + c + 3, fun i => i < p + c + 3⟩ w2 G2 ⟨ρ2, p + ops.size, fun i => i < p + c + 3⟩ w2 G2 :=
            ⟨fun e he => ⟨den_agree (fun i hi => hag2 i (by show i < p + (c + 3); have : i < p + c + 3 := hi; omega)) he, E.lt_mono (by show p + c + 3 ≤ p + ops.size; omega) he⟩, fun _ h => h, fun _ _ h => h, fun _ _ _ => rfl, fun _ _ => rfl, fun _ _ => rfl⟩
          have hok2 : RunOk N.P N.cs ops p N.n S0 ⟨ρ2, p + ops.size, fun i => i < p + c + 3⟩ Φ Pre r2 :=
            ⟨hcon, hits2, fun y hy => by have := hr2 y hy; show p + y.1 < p + ops.size; omega, hdst', hcf⟩
          refine wpOps_runs_rest _ hruns2 hok2 (hs2.later_same hlat2) (by rw [hmap2]; exact List.nodup_range') (fun y hy h => by
            have h' : p + y.1 < p + c + 3 := h
            have := hr2 y hy
            omega) ?_
          intro a3 w3 G3 M3 hM3 hs3
          have hs3' := hs3.later_same (Later.moreM ⟨ρ2, p + ops.size, M3⟩ w3 G3 (M' := fun i => i < p + ops.size) (fun i hi => by
            rcases hM3 i hi with h | ⟨y, hy, rfl⟩
            · have h' : i < p + c + 3 := h
              show i < p + ops.size; omega
            · have := hr2 y hy; show p + y.1 < p + ops.size; omega))
          show Q .normal a3 w3
          refine hk .normal σ2 (p + ops.size) d ρ2 stk a3 w3 G3 (Nat.le_add_right _ _) (fun i hi => ?_) hd ⟨[], rfl⟩ hf2 hs3'
          rw [hag2 i (by omega), upd_ne _ _ (by omega), upd_ne _ _ (by omega), hag1 i hi]
        · exact hf1.elim
      · exact hf1.elim
    split at h
    · rename_i c hx
      obtain ⟨rfl, hncf, hcl⟩ := plIdx_ok hx
      have hnf : ¬ S0.fr := fun hff => by have := hcf.1 hff; rw [hncf] at this; cases this
      have hnw : ¬ S0.wz := fun hff => by have := hcf.2 hff; rw [hncf] at this; cases this
      obtain ⟨ρ1, r1, σ1, hag1, hruns1, hmap1, hits1, hf1⟩ := regGo_hold (MM := fun i => i < p) c 0 [] σ ρ h (by omega)
      rw [Nat.add_zero] at hag1
      split at hf1
      · rename_i x hxo
        rw [Option.bind_eq_some_iff] at hxo
        obtain ⟨o, ho, hxo⟩ := hxo
        split at hf1
        · rename_i hc
          simp only [Bool.and_eq_true] at hc
          obtain ⟨hxl, hdst⟩ := hc
          obtain ⟨hpre, h2⟩ := hf1
          have hpre' : Pre x.k [den ρ1 x.e] := hpre rfl
          have h2' := h2 _ rfl
          obtain ⟨ρ2, r2, σ2, hag2, hruns2, hmap2, hits2, hf2⟩ := regGo_hold (MM := fun i => i < p + c + 1) (ops.size - (c + 1)) (c + 1) [] _ _ h2' (by omega)
          have hdst' : ∀ (i : Nat) (o : Oper) (dd : Nat), ops[i]? = some o → o.dst = some dd → dd < N.n := fun i o dd ho hod => by
            have := List.all_eq_true.1 hdst o (by simpa using Array.mem_of_getElem? ho)
            rw [hod] at this; simpa using this
          have hr1 : ∀ y ∈ r1, y.1 < c := fun y hy => by
            have : y.1 ∈ List.range' 0 c := by rw [← hmap1]; exact List.mem_map.2 ⟨y, hy, rfl⟩
            rw [List.mem_range'_1] at this; omega
          have hr2 : ∀ y ∈ r2, c + 1 ≤ y.1 ∧ y.1 < ops.size := fun y hy => by
            have : y.1 ∈ List.range' (c + 1) (ops.size - (c + 1)) := by rw [← hmap2]; exact List.mem_map.2 ⟨y, hy, rfl⟩
            rw [List.mem_range'_1] at this; omega
          have hlat1 : Later ⟨ρ, p, fun i => i < p⟩ w G ⟨ρ1, p + c, fun i => i < p⟩ w G :=
            ⟨fun e he => ⟨den_agree hag1 he, E.lt_mono (Nat.le_add_right _ _) he⟩, fun _ h => h, fun _ _ h => h, fun _ _ _ => rfl, fun _ _ => rfl, fun _ _ => rfl⟩
          have hok1 : RunOk N.P N.cs ops p N.n S0 ⟨ρ1, p + c, fun i => i < p⟩ Φ Pre r1 :=
            ⟨hcon, hits1, fun y hy => by have := hr1 y hy; show p + y.1 < p + c; omega, hdst', hcf⟩
          refine wp_region ?_
          have hsplit : List.range ops.size = r1.map (·.1) ++ (c :: (r2.map (·.1) ++ [])) := by
            rw [hmap1, hmap2, List.append_nil, List.range_eq_range']
            have h1 : c :: List.range' (c + 1) (ops.size - (c + 1)) = List.range' c (ops.size - (c + 1) + 1) := List.range'_succ.symm
            have h2 := List.range'_append_1 (s := 0) (m := c) (n := ops.size - (c + 1) + 1)
            rw [Nat.zero_add] at h2
            rw [h1, h2]
            congr 1; omega
          rw [hsplit]
          refine wpOps_runs_rest _ hruns1 hok1 (hs.later_same hlat1) (by rw [hmap1]; exact List.nodup_range') (fun y hy h => by
            have h' : p + y.1 < p := h
            omega) ?_
          intro a1 w1 G1 M1 hM1 hs1
          have hs1' := hs1.later_same (Later.moreM ⟨ρ1, p + c, M1⟩ w1 G1 (M' := fun i => i < p + c) (fun i hi => by
            rcases hM1 i hi with h | ⟨y, hy, rfl⟩
            · have h' : i < p := h
              show i < p + c; omega
            · have := hr1 y hy; show p + y.1 < p + c; omega))
          have hstep := opPl_ok (ops := ops) hxo hcon hs1' hpre' hfl hnf hnw (wpOps N.P ops Q (r2.map (·.1) ++ [])) Q (fun a2 w2 G2 hs2 => by
            have hlat2 : Later ⟨upd ρ1 (p + c) (Φ x.k [den ρ1 x.e]), p + c + 1, fun i => i < p + c + 1⟩ w2 G2 ⟨ρ2, p + ops.size, fun i => i < p + c + 1⟩ w2 G2 :=
              ⟨fun e he => ⟨den_agree (fun i hi => hag2 i (by show i < p + (c + 1); have : i < p + c + 1 := hi; omega)) he, E.lt_mono (by show p + c + 1 ≤ p + ops.size; omega) he⟩, fun _ h => h, fun _ _ h => h, fun _ _ _ => rfl, fun _ _ => rfl, fun _ _ => rfl⟩
            have hok2 : RunOk N.P N.cs ops p N.n S0 ⟨ρ2, p + ops.size, fun i => i < p + c + 1⟩ Φ Pre r2 :=
              ⟨hcon, hits2, fun y hy => by have := hr2 y hy; show p + y.1 < p + ops.size; omega, hdst', hcf⟩
            refine wpOps_runs_rest _ hruns2 hok2 (hs2.later_same hlat2) (by rw [hmap2]; exact List.nodup_range') (fun y hy h => by
              have h' : p + y.1 < p + c + 1 := h
              have := hr2 y hy
              omega) ?_
            intro a3 w3 G3 M3 hM3 hs3
            have hs3' := hs3.later_same (Later.moreM ⟨ρ2, p + ops.size, M3⟩ w3 G3 (M' := fun i => i < p + ops.size) (fun i hi => by
              rcases hM3 i hi with h | ⟨y, hy, rfl⟩
              · have h' : i < p + c + 1 := h
                show i < p + ops.size; omega
              · have := hr2 y hy; show p + y.1 < p + ops.size; omega))
            show Q .normal a3 w3
            refine hk .normal σ2 (p + ops.size) d ρ2 stk a3 w3 G3 (Nat.le_add_right _ _) (fun i hi => ?_) hd ⟨[], rfl⟩ hf2 hs3'
            rw [hag2 i (by omega), upd_ne _ _ (by omega), hag1 i hi])
          simp only [wpOps, ho]
          rw [hstep.1, if_pos rfl]
          exact .inl hstep.2
        · exact hf1.elim
      · exact hf1.elim
    rw [List.range_eq_range'] at h
    obtain ⟨ρ', r, σ', hag0, hruns, hmap', hits, hf⟩ := regGo_hold (MM := fun i => i < p) ops.size 0 [] σ ρ h (by omega)
    have hag : ∀ i, i < p → ρ' i = ρ i := hag0
    have hmap : r.map (·.1) = List.range ops.size := by rw [List.range_eq_range']; exact hmap'
    rw [List.nil_append] at hf
    split at hf
    · rename_i hc
      · simp only [Bool.and_eq_true] at hc
        obtain ⟨hdraw, hdst⟩ := hc
        have hk' := hf
        have hrlt : ∀ x ∈ r, x.1 < ops.size := by
          intro x hx
          have : x.1 ∈ List.range ops.size := by rw [← hmap]; exact List.mem_map.2 ⟨x, hx, rfl⟩
          simpa using this
        have hlat : Later ⟨ρ, p, fun i => i < p⟩ w G ⟨ρ', p + ops.size, fun i => i < p⟩ w G :=
          ⟨fun e he => ⟨den_agree hag he, E.lt_mono (Nat.le_add_right _ _) he⟩, fun _ h => h, fun _ _ h => h, fun _ _ _ => rfl, fun _ _ => rfl, fun _ _ => rfl⟩
        have hs1 := hs.later_same hlat
        have hok : RunOk N.P N.cs ops p N.n S0 ⟨ρ', p + ops.size, fun i => i < p⟩ Φ Pre r :=
          ⟨hcon, hits,
            fun x hx => by have := hrlt x hx; show p + x.1 < p + ops.size; omega,
            fun i o d ho hod => by
              have := List.all_eq_true.1 hdst o (by simpa using Array.mem_of_getElem? ho)
              simpa [hod] using this, hcf⟩
        have hM : ∀ x ∈ r, ¬ (fun i => i < p) (p + x.1) := fun x _ h => by
          have h' : p + x.1 < p := h
          omega
        have hnd : (r.map (·.1)).Nodup := by rw [hmap]; exact List.nodup_range
        have fin : ∀ a' w' G' M', (∀ i, M' i → i < p ∨ ∃ x ∈ r, i = p + x.1) → Sim N.n w0 S0 ⟨ρ', p + ops.size, M'⟩ G' σ' a' w' → Q .normal a' w' := by
          intro a' w' G' M' hM' hs'
          have hs2 := hs'.later_same (Later.moreM ⟨ρ', p + ops.size, M'⟩ w' G' (M' := fun i => i < p + ops.size) (fun i hi => by
            rcases hM' i hi with h | ⟨x, hx, rfl⟩
            · show i < _; omega
            · have := hrlt x hx; show p + x.1 < _; omega))
          exact hk .normal σ' (p + ops.size) d ρ' stk a' w' G' (Nat.le_add_right _ _) hag hd ⟨[], rfl⟩ hk' hs2
        cases draw with
        | false =>
          refine wp_region ?_
          rw [← hmap]
          exact wpOps_runs hruns hok hs1 hnd hM fin
        | true =>
          simp only [Bool.not_true, Bool.false_or, Bool.and_eq_true] at hdraw
          refine wp_region_any hmix ?_
          have hrl : r.length = ops.size := by have := congrArg List.length hmap; simpa using this
          refine wpAny_runs ops.size hruns hok hs1.drew hnd hM hdraw.1 (by simp) ?_ (by omega) ?_ hrlt ?_ ?_ fin
          · intro j o ho hj
            have hjl : j < ops.size := (Array.getElem?_eq_some_iff.1 ho).1
            simp [hjl] at hj
          · intro i hi
            rw [hmap]; simp [hi]
          · intro hne
            exact back_ready hdraw.2 (by simp) (r := r.map (·.1)) (fun i hi => by rw [hmap]; simp [hi]) (by simpa using hne) (fun x hx => by obtain ⟨y, hy, rfl⟩ := List.mem_map.1 hx; exact hrlt y hy)
          · intro l r' h1 _ h3 h4 h5
            exact back_ready hdraw.2 h1 h3 (by simpa using h4) (fun x hx => by obtain ⟨y, hy, rfl⟩ := List.mem_map.1 hx; exact h5 y hy)
    · exact hf.elim
  | seq x y ihx ihy =>
    intro k σ p d ρ stk Q h hd hpin hk a w G hs
    refine wp_seq (ihx _ σ p d ρ stk _ h hd hpin ?_ a w G hs)
    intro ex σ' p' d' ρ' stk' a' w' G' hp hρ hl ⟨l, hstk⟩ hkk hs'
    cases ex with
    | normal =>
      refine ihy k σ' p' d' ρ' stk' Q hkk hl (fun i b hi => Nat.lt_of_lt_of_le (hpin i b hi) hp) ?_ a' w' G' hs'
      intro ex2 σ2 p2 d2 ρ2 stk2 a2 w2 G2 hp2 hρ2 hl2 ⟨l2, hstk2⟩ hk2 hs2
      exact hk ex2 σ2 p2 d2 ρ2 stk2 a2 w2 G2 (by omega) (fun i hi => (hρ2 i (by omega)).trans (hρ i hi)) hl2 ⟨l2 ++ l, by rw [hstk2, hstk, List.append_assoc]⟩ hk2 hs2
    | exit i => exact hk (.exit i) σ' p' d' ρ' stk' a' w' G' hp hρ hl ⟨l, hstk⟩ hkk hs'
    | ret => exact hk .ret σ' p' d' ρ' stk' a' w' G' hp hρ hl ⟨l, hstk⟩ hkk hs'
  | cond c x y ihx ihy =>
    intro k σ p d ρ stk Q h hd hpin hk a w G hs
    have hcond : ∀ e, condE σ N.P c = some e → ∃ b, a.eval c = .bool b ∧ den ρ e = .bool b := by
      intro e he
      unfold condE at he
      split at he
      · rename_i e' he'
        injection he with he; subst he
        obtain ⟨_, h2, h3⟩ := getD_ok hs.t (pc := []) rfl he'
        obtain ⟨b, hb⟩ := has_bool.1 h3
        exact ⟨b, (hb ▸ h2).inv_bool, hb⟩
      · cases he
    simp only [vc] at h
    split at h
    · rename_i hce
      obtain ⟨b, hb1, hb2⟩ := hcond _ hce
      simp only [den, D.bool.injEq] at hb2; subst hb2
      exact wp_cond_true hb1 (ihx k σ p d ρ stk Q h hd hpin hk a w G hs)
    · rename_i hce
      obtain ⟨b, hb1, hb2⟩ := hcond _ hce
      simp only [den, D.bool.injEq] at hb2; subst hb2
      exact wp_cond_false hb1 (ihy k σ p d ρ stk Q h hd hpin hk a w G hs)
    · rename_i e _ _ hce
      obtain ⟨b, hb1, hb2⟩ := hcond _ hce
      split at h
      · obtain ⟨h1, h2⟩ := h
        cases b with
        | true => exact wp_cond_true hb1 (ihx k σ p d ρ stk Q (h1 (by rw [hb2]; rfl)) hd hpin hk a w G hs)
        | false => exact wp_cond_false hb1 (ihy k σ p d ρ stk Q (h2 (by rw [hb2]; rfl)) hd hpin hk a w G hs)
      · exact h.elim
    · exact h.elim
  | block i c ih =>
    intro k σ p d ρ stk Q h hd hpin hk a w G hs
    refine wp_block (ih _ σ p d ρ stk _ h hd hpin ?_ a w G hs)
    intro ex σ' p' d' ρ' stk' a' w' G' hp hρ hl hstk hkk hs'
    cases ex with
    | normal => exact hk .normal σ' p' d' ρ' stk' a' w' G' hp hρ hl hstk hkk hs'
    | ret => exact hk .ret σ' p' d' ρ' stk' a' w' G' hp hρ hl hstk hkk hs'
    | exit j =>
      simp only at hkk
      show (if j = i then Q .normal a' w' else Q (.exit j) a' w')
      by_cases hj : j = i
      · rw [if_pos hj] at hkk ⊢
        exact hk .normal σ' p' d' ρ' stk' a' w' G' hp hρ hl hstk hkk hs'
      · rw [if_neg hj] at hkk ⊢
        exact hk (.exit j) σ' p' d' ρ' stk' a' w' G' hp hρ hl hstk hkk hs'
  | loop c ih =>
    intro k σ p d ρ stk Q h hd hpin hk a w G hs
    simp only [vc] at h
    split at h
    · rename_i es hfit
      obtain ⟨I, m, hI0, hround⟩ := h
      have hok := mkHead_ok N.n (((firstReg c).bind (lk N.anns)).getD {}) ((((firstReg c).bind (lk N.anns)).getD {}).own.map (·.1) ++ assigned c) σ p
      generalize hh : mkHead N.n (((firstReg c).bind (lk N.anns)).getD {}) ((((firstReg c).bind (lk N.anns)).getD {}).own.map (·.1) ++ assigned c) σ p = hd' at *
      have hv0 : hd'.v0 = p := by rw [← hh]; rfl
      have tyOk : ∀ {es' : List E} {ρ' : Nat → D}, es'.length = hd'.size → (∀ (j : Nat) x e, hd'.slots[j]? = some x → es'[j]? = some e → Has (slotTy x.2.1 x.2.2) (den ρ' e)) → HasL (.ofL (hd'.slots.map fun x => slotTy x.2.1 x.2.2)) (es'.map (den ρ')) := by
        intro es' ρ' h1 h2
        refine hasL_mk (by simp [h1, Head.size]) fun j u x hj hx => ?_
        simp only [List.getElem?_map, Option.map_eq_some_iff] at hj hx
        obtain ⟨y, hy, rfl⟩ := hj
        obtain ⟨e, he, rfl⟩ := hx
        exact h2 j y e hy he
      obtain ⟨q1, q2, G1, q3⟩ := fitSt_ok hs hok hfit (ρ0 := ρ) (fun _ _ => rfl) (fun i b hi => by rw [hv0]; exact hpin i b hi)
      rw [hv0] at q3
      refine wp_loop_ghost (fun kk a' w' => ∃ xs G', HasL (.ofL (hd'.slots.map fun x => slotTy x.2.1 x.2.2)) xs ∧ I xs ∧ m xs = kk ∧ Sim N.n w0 S0 ⟨updV ρ p xs, p + hd'.size, fun i => i < p + hd'.size⟩ G' hd'.st a' w') _
        ⟨es.map (den ρ), G1, tyOk q1 q2, hI0, rfl, q3⟩ ?_
      rintro kk a' w' ⟨xs, G', hty, hI, rfl, hs'⟩
      refine ih _ hd'.st (p + hd'.size) (d + 1) (updV ρ p xs) _ _ (hround xs hty hI) (by simp [hd]) (fun i b hi => Nat.lt_of_lt_of_le (hpin i b hi) (Nat.le_add_right _ _)) ?_ a' w' G' hs'
      intro ex σ2 p2 d2 ρ2 stk2 a2 w2 G2 hp2 hρ2 hl2 ⟨l2, hstk2⟩ hk2 hs2
      have hagree : ∀ i, i < p → ρ2 i = ρ i := fun i hi => (hρ2 i (by omega)).trans (updV_lt hi)
      cases ex with
      | normal =>
        simp only at hk2
        split at hk2
        · rename_i es' hfit'
          have hlen : l2.length = d2 - 1 - d := by
            have := congrArg List.length hstk2
            simp only [List.length_append, List.length_cons] at this
            omega
          have hget : stk2[d2 - 1 - d]? = some (fun ys => I ys ∧ m ys < m xs) := by
            rw [hstk2, ← hlen, List.getElem?_append_right (Nat.le_refl _), Nat.sub_self]; rfl
          simp only [VC.holds, hget] at hk2
          obtain ⟨G2', hs2'⟩ := hs2.frzSt hd'.slots
          obtain ⟨r1, r2, G3, r3⟩ := fitSt_ok hs2' hok hfit' (ρ0 := ρ) (fun i hi => by rw [hv0] at hi; exact (hagree i hi).symm) (fun i b hi => by rw [hv0]; exact hpin i b hi)
          rw [hv0] at r3
          exact ⟨_, hk2.2, es'.map (den ρ2), G3, tyOk r1 r2, hk2.1, rfl, r3⟩
        · exact hk2.elim
      | exit i => exact hk (.exit i) σ2 p2 d2 ρ2 stk2 a2 w2 G2 (by omega) hagree hl2 ⟨l2 ++ [fun ys => I ys ∧ m ys < m xs], by rw [hstk2]; simp⟩ hk2 hs2
      | ret => exact hk .ret σ2 p2 d2 ρ2 stk2 a2 w2 G2 (by omega) hagree hl2 ⟨l2 ++ [fun ys => I ys ∧ m ys < m xs], by rw [hstk2]; simp⟩ hk2 hs2
    · exact h.elim
  | _ => intro k σ p d ρ stk Q h; exact h.elim
end
end Go.Eng
