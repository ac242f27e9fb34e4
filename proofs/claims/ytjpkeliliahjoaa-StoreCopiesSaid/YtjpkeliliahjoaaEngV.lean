/-
  Which variables a loop may change, read off its code: an aid to find annotations; nothing hangs on its being right.
-/
import Derived.Test.YtjpkeliliahjoaaEngT
namespace Go.Eng
open Go

def opsOf : Code → List Oper
  | .region _ ops _ => ops.toList
  | .seq a b => opsOf a ++ opsOf b
  | .cond _ a b => opsOf a ++ opsOf b
  | .block _ c | .loop c | .scope c => opsOf c
  | _ => []
def baseOf (ops : List Oper) : Nat → Nat → Nat
  | 0, t => t
  | f + 1, t => match ops.find? (fun o => o.dst == some t) with
    | some o => match o.op with
      | .fieldAddr _ (.tmp x) _ => baseOf ops f x
      | .nilCheck (.tmp x) | .move (.tmp x) => baseOf ops f x
      | _ => t
    | none => t
def storedIn (ops : List Oper) (c : Code) : List Nat :=
  dedup ((opsOf c).flatMap fun o => match o.op with
    | .store _ (.tmp x) _ => [baseOf ops 10 x]
    | .call { callee := .value _, args, .. } => args.toList.filterMap fun x => match x with | .tmp t => some (baseOf ops 10 t) | _ => none
    | _ => [])
def loopsIn : Code → List (Nat × Code)
  | .seq a b => loopsIn a ++ loopsIn b
  | .cond _ a b => loopsIn a ++ loopsIn b
  | .block _ c | .scope c => loopsIn c
  | .loop c => (match firstReg c with | some i => [(i, c)] | none => []) ++ loopsIn c
  | _ => []
/-- The slices among a type's cells, and their elements' types. -/
def sliceCells (P : Program) : Nat → Nat → TypeId → List (Nat × TypeId)
  | 0, _, _ => []
  | n + 1, off, t => match P.underlying t with
    | some (.slice e) => [(off, e)]
    | some (.struct fs) => fs.toList.flatMap fun f => sliceCells P n (off + f.offset) f.type
    | _ => []
def allocTy (ops : List Oper) (t : Nat) : Option TypeId := match ops.find? (fun o => o.dst == some t) with
  | some o => match o.op with
    | .alloc T => some T
    | .box T _ => some T
    | _ => none
  | none => none
def ownTemps (P : Program) (ops : List Oper) : List (Nat × TypeId) := ops.filterMap fun o => match o.dst with
  | some t => match P.underlying o.type with
    | some (.slice e) => some (t, e)
    | _ => none
  | none => none
/-- What a pointer points to, by a call that is handed it. -/
def argPtr (P : Program) (all ops : List Oper) (t : Nat) : Option TypeId := ops.findSome? fun o => match o.op with
  | .call { callee := .value _, args, argTypes } => (args.toList.zip argTypes.toList).findSome? fun x => match x.1 with
    | .tmp t' => if baseOf all 10 t' = t then (match P.underlying x.2 with | some (.pointer e) => some e | _ => none) else none
    | _ => none
  | _ => none
/-- Each loop: all variables that are stored to in it, their slices as owned ones; as given, where something is given. -/
def autoAnn (P : Program) (given : List (Nat × Ann)) (c : Option Code) : List (Nat × Ann) :=
  match c with
  | some c => (loopsIn c).map fun x => let g := (lk given x.1).getD {}
      (x.1, { own := ((ownTemps P (opsOf x.2)).filter fun y => !g.own.contains (y.1, 0)) ++ g.own.filter (fun y => y.2 != 0), boxes := ((storedIn (opsOf c) x.2).map fun t => (t, match (allocTy (opsOf c) t).orElse (fun _ => argPtr P (opsOf c) (opsOf x.2) t) with | some T => sliceCells P 4 0 T | none => [])) ++ g.boxes, drop := g.drop })
  | none => given
/-- A loop's condition, kept shut. -/
def LoopOk (init : List D) (tys : List Ty) (body : List D → (List D → Prop) → Prop) : Prop :=
  ∃ (I : List D → Prop) (m : List D → Nat), I init ∧ ∀ xs, HasL (.ofL tys) xs → I xs → body xs (fun ys => I ys ∧ m ys < m xs)
theorem LoopOk.intro {init : List D} {tys : List Ty} {body : List D → (List D → Prop) → Prop} (I : List D → Prop) (m : List D → Nat) (h0 : I init)
    (h : ∀ xs, HasL (.ofL tys) xs → I xs → body xs (fun ys => I ys ∧ m ys < m xs)) : LoopOk init tys body := ⟨I, m, h0, h⟩
section
variable {Φ : Nat → List D → D} {Pre : Nat → List D → Prop} {R : D → Prop} {ρ : Nat → D} {stk : List (List D → Prop)}
theorem vh_obl {pc : Cond} {e : E} {k : VC} : (VC.obl pc e k).holds Φ Pre R ρ stk = ((condB ρ pc = true → (den ρ e).toB = true) ∧ k.holds Φ Pre R ρ stk) := rfl
theorem vh_call {p f : Nat} {args : E} {pc : Cond} {k : VC} : (VC.call p f args pc k).holds Φ Pre R ρ stk = ((condB ρ pc = true → Pre f (den ρ args).toL) ∧ k.holds Φ Pre R (upd ρ p (Φ f (den ρ args).toL)) stk) := by
  simp only [VC.holds, forall_eq]
theorem vh_room {pc : Cond} {e : E} {b : Nat} {k : VC} : (VC.room pc e b k).holds Φ Pre R ρ stk = ((condB ρ pc = true → (den ρ e).toL.length ≤ maxLen ∧ (den ρ e).toL.length * b ≤ 140737488355328) ∧ k.holds Φ Pre R ρ stk) := rfl
theorem vh_branch {e : E} {t f : VC} : (VC.branch e t f).holds Φ Pre R ρ stk = (((den ρ e).toB = true → t.holds Φ Pre R ρ stk) ∧ ((den ρ e).toB = false → f.holds Φ Pre R ρ stk)) := rfl
theorem vh_loop {v0 : Nat} {es : List E} {tys : List Ty} {body : VC} : (VC.loop v0 es tys body).holds Φ Pre R ρ stk = LoopOk (es.map (den ρ)) tys (fun xs J => body.holds Φ Pre R (updV ρ v0 xs) (J :: stk)) := rfl
theorem vh_again {i : Nat} {es : List E} : (VC.again i es).holds Φ Pre R ρ stk = (match stk[i]? with | some J => J (es.map (den ρ)) | none => False) := rfl
theorem vh_ret {e : E} : (VC.ret e).holds Φ Pre R ρ stk = R (den ρ e) := rfl
end
/-- Which temporaries are slices of their own kind: kept under a number that is no loop's; 1000000 stands for all appends, 1000001 for all literals but appends' elements. -/
def exOf (given : List (Nat × Ann)) (c : Option Code) : List Nat :=
  let l := ((lk given 1000000).getD {}).drop
  let ops := match c with | some c => opsOf c | none => []
  l ++ (if l.contains 1000000 then ops.filterMap fun o => match o.op with | .call { callee := .builtin .append, .. } => o.dst | _ => none else []) ++
    (if l.contains 1000001 then
      let els := ops.filterMap fun o => match o.op with | .call { callee := .builtin .append, args, .. } => (match args.toList with | [_, .tmp t] => some t | _ => none) | _ => none
      ops.filterMap fun o => match o.op with | .buildSlice .. => (match o.dst with | some d => if els.contains d then none else some d | none => none) | _ => none
    else [])
/-- The condition of a function that is handed objects. -/
def fvcO (P : Program) (cs : List (Nat × Sig)) (given : List (Nat × Ann)) (sig : Sig) (fn : Func) : VC :=
  match fn.body, sig.ob with
  | some c, some ob => vc ⟨P, ⟨cs, exOf given fn.body, 0⟩, fn.ntmps, autoAnn P given fn.body, [], []⟩ c (fun ex σ _ _ => match ex with | .exit _ => .stuck 20 | _ => retVCo P sig ob fn σ) (St.startO sig ob) sig.params.length 0
  | _, _ => .stuck 30
theorem objFn_auto {P : Program} {f : Nat} {fn : Func} {sig : Sig} {ob : Ob} {Pre0 : List D → Prop} {Φ0 : List D → D} {cs : List (Nat × Sig)} {Φ : Nat → List D → D} {Pre : Nat → List D → Prop} {given : List (Nat × Ann)} {v : VC}
    (hmix : P.follows .mixedOrders = true) (hcon : Con P Pre Φ cs) (hf : P.funcs[f]? = some fn) (hob : sig.ob = some ob) (hB : obB fn sig ob = true) (hv : fvcO P cs given sig fn = v)
    (hc : ∀ ds, HasL (.ofL sig.params) ds → Pre0 ds → v.holds Φ Pre (fun d => d = Φ0 ds) (fun i => ds.getD i .top) []) (hnp : noPl cs = true := by rfl) : PureFn P f sig Pre0 Φ0 := by
  have hB' := hB
  unfold obB at hB'
  simp only [Bool.and_eq_true] at hB'
  obtain ⟨c, hb⟩ := Option.isSome_iff_exists.1 hB'.1.1.1.1.1.1.1.1.1.1
  refine objFn_of_vc ⟨cs, exOf given fn.body, 0⟩ Φ Pre (autoAnn P given fn.body) v hf hb hmix hob hB hnp rfl hcon ?_ hc
  unfold fvcO at hv
  rw [hob, hb] at hv
  rw [hb]
  exact hv
def fvcA (P : Program) (cs : List (Nat × Sig)) (given : List (Nat × Ann)) (sig : Sig) (fn : Func) : VC := fvc P ⟨cs, exOf given fn.body, 0⟩ (autoAnn P given fn.body) sig fn
theorem pureFn_auto {P : Program} {f : Nat} {fn : Func} {sig : Sig} {Pre0 : List D → Prop} {Φ0 : List D → D} {cs : List (Nat × Sig)} {Φ : Nat → List D → D} {Pre : Nat → List D → Prop} {given : List (Nat × Ann)} {v : VC}
    (hmix : P.follows .mixedOrders = true) (hcon : Con P Pre Φ cs) (hf : P.funcs[f]? = some fn) (hB : fnB fn sig = true) (hv : fvcA P cs given sig fn = v)
    (hc : ∀ ds, HasL (.ofL sig.params) ds → Pre0 ds → v.holds Φ Pre (fun d => d = Φ0 ds) (fun i => ds.getD i .top) []) (hnf : noFr sig.res = true := by rfl) : PureFn P f sig Pre0 Φ0 :=
  pureFn_of hmix hcon (by simp [frB, hnf]) hf hB hv hc
/-- The same, in the mode in which what is made leans on new blocks alone. -/
def fvcP (P : Program) (cs : List (Nat × Sig)) (given : List (Nat × Ann)) (sig : Sig) (fn : Func) : VC := fvc P ⟨cs, [], 1⟩ (autoAnn P given fn.body) sig fn
theorem pureFn_autoF {P : Program} {f : Nat} {fn : Func} {sig : Sig} {Pre0 : List D → Prop} {Φ0 : List D → D} {cs : List (Nat × Sig)} {Φ : Nat → List D → D} {Pre : Nat → List D → Prop} {given : List (Nat × Ann)} {v : VC}
    (hmix : P.follows .mixedOrders = true) (hcon : Con P Pre Φ cs) (hf : P.funcs[f]? = some fn) (hB : fnB fn sig = true) (hv : fvcP P cs given sig fn = v)
    (hc : ∀ ds, HasL (.ofL sig.params) ds → Pre0 ds → v.holds Φ Pre (fun d => d = Φ0 ds) (fun i => ds.getD i .top) []) : PureFn P f sig Pre0 Φ0 :=
  pureFn_of hmix hcon (by simp [frB]) hf hB hv hc
end Go.Eng
