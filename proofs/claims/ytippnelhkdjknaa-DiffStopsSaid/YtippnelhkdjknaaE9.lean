/-
  A run of the code in plain data, and that it is sound (9).
-/
import Derived.Test.YtippnelhkdjknaaE8
import Derived.OrdersHeld
/- Steps by hand: what single operations do, where their operands are known. -/
namespace Go.Eng
open Go Go.RowKit

section
variable {P : Program} {a : Act} {w : World} {dst : Option Nat} {ty : TypeId} {pos : String} {af : Array Edge} {gd : Option (Nat × Bool)}
theorem put_get (a : Act) (d t : Nat) (v : Value) : (a.put (some d) v).tmps[t]? = if d = t then (if d < a.tmps.size then some v else none) else a.tmps[t]? := by
  simp only [Act.put, Array.getElem?_setIfInBounds]
theorem put_same {a : Act} {d n : Nat} {v : Value} (h : a.tmps.size = n) (hd : d < n) : (a.put (some d) v).tmps[d]? = some v := by rw [put_get, if_pos rfl, if_pos (by omega)]
theorem put_other {a : Act} {d t : Nat} {v : Value} (h : d ≠ t) : (a.put (some d) v).tmps[t]? = a.tmps[t]? := by rw [put_get, if_neg h]
theorem eval_tmp {a : Act} {t : Nat} {v : Value} (h : a.tmps[t]? = some v) : a.eval (.tmp t) = v := by simp [Act.eval, h]

theorem exec_fieldAddr {t : TypeId} {f off b o : Nat} {x : Operand} (h : (fieldOf P t f).map (fun y => (y.1.offset, decide (0 < y.2))) = some (off, true)) (hx : a.eval x = .pointer (some ⟨b, o, none⟩)) :
    (execOp a.eval ⟨dst, .fieldAddr t x f, ty, pos, af, gd⟩).run P w = .ok (.value (.pointer (some ⟨b, o + off, none⟩))) w := by
  cases hf : fieldOf P t f with
  | none => rw [hf] at h; cases h
  | some y =>
    obtain ⟨fl, n⟩ := y
    rw [hf] at h
    simp only [Option.map_some, Option.some.injEq, Prod.mk.injEq, decide_eq_true_eq] at h
    obtain ⟨rfl, hn⟩ := h
    obtain ⟨n, rfl⟩ : ∃ m, n = m + 1 := ⟨n - 1, by omega⟩
    unfold execOp; simp only [hx]
    rw [Sem.run_bind, run_fieldAt hf b o]; rfl
theorem exec_load1 {t : TypeId} {x : Operand} {ad : Addr} {v : Value} (ha : aggT P t = false) (hu : (P.underlying t).isSome = true) (hx : a.eval x = .pointer (some ad)) (hc : w.cell? ad = some v) :
    (execOp a.eval ⟨dst, .load t x, ty, pos, af, gd⟩).run P w = .ok (.value v) w := by
  unfold execOp; simp only [hx]
  rw [Sem.run_bind, run_load_one ha hu hc]; rfl
theorem exec_loadN {t : TypeId} {x : Operand} {b off n : Nat} {vs : List Value} (hs : sizeT P t = some n) (ha : aggT P t = true) (hx : a.eval x = .pointer (some ⟨b, off, none⟩)) (hl : vs.length = n)
    (hc : ∀ (j : Nat) v, vs[j]? = some v → w.cell? ⟨b, off + j, none⟩ = some v) :
    (execOp a.eval ⟨dst, .load t x, ty, pos, af, gd⟩).run P w = .ok (.value (.agg vs.toArray)) w := by
  unfold execOp; simp only [hx]
  rw [Sem.run_bind, run_load_cells hs ha hl hc]; rfl
theorem exec_move {x : Operand} : (execOp a.eval ⟨dst, .move x, ty, pos, af, gd⟩).run P w = .ok (.value (a.eval x)) w := by unfold execOp; rfl
theorem exec_assign {x : Operand} : (execOp a.eval ⟨dst, .assign x, ty, pos, af, gd⟩).run P w = .ok (.value (a.eval x)) w := by unfold execOp; rfl
theorem exec_indexAddr {t el : TypeId} {x i : Operand} {b n cap sz : Nat} {k : IntKind} {m : Int} (hu : P.underlying t = some (.slice el)) (hsz : sizeT P el = some sz) (hx : a.eval x = .slice (some ⟨b, 0, none⟩) n cap) (hi : a.eval i = .int k m)
    (h0 : 0 ≤ m) (h1 : m < n) : (execOp a.eval ⟨dst, .indexAddr t x i, ty, pos, af, gd⟩).run P w = .ok (.value (.pointer (some ⟨b, m.toNat * sz, none⟩))) w := by
  have h2 := run_sizeT (P := P) (w := w) hsz
  unfold execOp; simp only [hx, hi, Instr.indexAt, asIntOf]
  simp [run_underlying hu, h0, h1, h2, addr_add]
theorem exec_store {t : TypeId} {x y : Operand} {b off : Nat} {cur : Array Value} {T : TypeId} {vs : List Value} (hs : sizeT P t = some vs.length) (hx : a.eval x = .pointer (some ⟨b, off, none⟩)) (hy : (a.eval y).cells = vs.toArray)
    (hcur : w.heap[b]? = some (.cells cur T (0, 0))) (hlen : off + vs.length ≤ cur.size) (hone : ∀ v ∈ vs, v.oneCell' = true) :
    (execOp a.eval ⟨dst, .store t x y, ty, pos, af, gd⟩).run P w = .ok .skip (w.setRow b (cur.toList.take off ++ vs ++ cur.toList.drop (off + vs.length)).toArray) := by
  have hst := run_storeCells_at P b off T vs 0 cur w hcur (by omega) hone
  simp only [Nat.add_zero] at hst
  have h1 := run_sizeT (P := P) (w := w) hs
  unfold execOp; simp only [hx, Instr.storeAt, Instr.sureAddr]
  simp [storeVar, h1, hy]
  simp at hst
  rw [hst]; rfl
theorem exec_lss {t t2 : TypeId} {x y : Operand} {k : IntKind} {m n : Int} (hx : a.eval x = .int k m) (hy : a.eval y = .int k n) : (execOp a.eval ⟨dst, .binOp .lss t x y t2, ty, pos, af, gd⟩).run P w = .ok (.value (.bool (decide (m < n)))) w := by
  unfold execOp; simp [hx, hy, eqGuard, binOp, Op.intCmp]
theorem exec_add {t t2 : TypeId} {x y : Operand} {k : IntKind} {m n : Int} (hx : a.eval x = .int k m) (hy : a.eval y = .int k n) : (execOp a.eval ⟨dst, .binOp .add t x y t2, ty, pos, af, gd⟩).run P w = .ok (.value (.int k (k.wrap (m + n)))) w := by
  unfold execOp; simp [hx, hy, eqGuard, binOp, Op.intArith]
theorem exec_len {t el : TypeId} {x : Operand} {A : Option Addr} {n c : Nat} (hu : P.underlying t = some (.slice el)) (hx : a.eval x = .slice A n c) : (execOp a.eval ⟨dst, .call { callee := .builtin .len, args := #[x], argTypes := #[t] }, ty, pos, af, gd⟩).run P w = .ok (.value (.int .i64 n)) w := by
  unfold execOp; simp only [resolve, invoke, builtin]
  simp [Builtin.len_, hx, run_underlying hu, goInt]
theorem exec_alloc {t : TypeId} {n : Nat} (h : ((P.info? t).bind (·.zero)).map (fun z => z.cells.size) = some n) :
    ∃ zs : Array Value, zs.size = n ∧ (execOp a.eval ⟨dst, .alloc t, ty, pos, af, gd⟩).run P w = .ok (.value (.pointer (some ⟨w.heap.size, 0, none⟩))) (w.alloc (.cells zs t)) := by
  cases hi : P.info? t with
  | none => rw [hi] at h; cases h
  | some it =>
    cases hz : it.zero with
    | none => rw [hi] at h; simp [hz] at h
    | some z =>
      rw [hi] at h
      simp [hz] at h
      refine ⟨z.cells, h, ?_⟩
      unfold execOp; simp only [Instr.alloc]
      simp [zeroValue, typeInfo, hi, hz, newVar, newRow]
theorem exec_not {t : TypeId} {x : Operand} {b : Bool} (hx : a.eval x = .bool b) : (execOp a.eval ⟨dst, .unOp .not t x, ty, pos, af, gd⟩).run P w = .ok (.value (.bool (!b))) w := by
  unfold execOp; simp [hx, Op.unary]
theorem map2 {x y : Operand} {v u : Value} (h : a.eval x = v) (h2 : a.eval y = u) : #[x, y].map a.eval = [v, u].toArray := by simp [h, h2]
theorem map1 {x : Operand} {v : Value} (h : a.eval x = v) : #[x].map a.eval = [v].toArray := by simp [h]
theorem exec_call {k : Nat} {args : Array Operand} {ts : Array TypeId} {vs : List Value} (he : ∀ (args : Array Value) (w : World), (callFunc k args).run P w = .ok (.enter k args) w) (hv : args.map a.eval = vs.toArray) :
    (execOp a.eval ⟨dst, .call { callee := .value (.func k), args, argTypes := ts }, ty, pos, af, gd⟩).run P w = .ok (.enter k vs.toArray) w := by
  unfold execOp
  have := he vs.toArray w
  simpa [resolve, Act.eval, Deferred.ofValue, invoke, hv] using this

variable {ops : Array Oper} {Q : Exit → Act → World → Prop} {rest : List Nat} {i : Nat} {o : Oper}
theorem wpOps_val {v : Value} {w' : World} {d : Nat} {op : Op} (ho : ops[i]? = some ⟨some d, op, ty, pos, af, none⟩) (hr : (execOp a.eval ⟨some d, op, ty, pos, af, none⟩).run P w = .ok (.value v) w') (h : wpOps P ops Q rest (a.put (some d) v) w') : wpOps P ops Q (i :: rest) a w :=
  wpOps_step ho rfl (by rw [Oper.wp, hr]; exact h)
theorem wpOps_skip {w' : World} {op : Op} (ho : ops[i]? = some ⟨none, op, ty, pos, af, none⟩) (hr : (execOp a.eval ⟨none, op, ty, pos, af, none⟩).run P w = .ok .skip w') (h : wpOps P ops Q rest a w') : wpOps P ops Q (i :: rest) a w :=
  wpOps_step ho rfl (by rw [Oper.wp, hr]; exact h)
theorem wpOps_call {k : Nat} {vs : Array Value} {R : Ending → World → Prop} {d : Nat} {op : Op} (ho : ops[i]? = some ⟨some d, op, ty, pos, af, none⟩) (hr : (execOp a.eval ⟨some d, op, ty, pos, af, none⟩).run P w = .ok (.enter k vs) w) (hc : Calls P k vs w R)
    (h : ∀ e w', R e w' → ∃ v, e = .returned v ∧ wpOps P ops Q rest (a.put (some d) v) w') : wpOps P ops Q (i :: rest) a w :=
  wpOps_step ho rfl (by
    rw [Oper.wp, hr]
    refine hc.mono fun e w' he => ?_
    obtain ⟨v, rfl, h2⟩ := h e w' he
    exact h2)

variable {S : World → Prop} {fuel : Nat} {listed : Array Bool}
theorem held_take {v : Value} {d : Nat} {op : Op} (ho : ops[i]? = some ⟨some d, op, ty, pos, af, none⟩) (hs : Region.noSelect ops = true) (hf : Region.free .any ops listed i = true) (hr : (Region.ready .any ops listed).contains i = true)
    (hQ : ∀ c a d v w, Q (.panic c) (a.put d v) w → Q (.panic c) a w) (hy : ∀ w, S w → (execOp a.eval ⟨some d, op, ty, pos, af, none⟩).run P w = .ok (.value v) w) (hS : S w)
    (h : wpAnyH P .any ops Q S fuel (listed.setIfInBounds i true) (a.put (some d) v) w) : wpAnyH P .any ops Q S (fuel + 1) listed a w :=
  wpAnyH_take ho hs hf hr (fun c a w => hQ c a _ _ w) (.inl ⟨by unfold Region.wanted; rfl, hy⟩) hS h
theorem held_one {n : Nat} (hn : n = fuel + 1) (ho : ops[i]? = some o) (hr : Region.ready .any ops listed = [i]) (hg : o.guard = none)
    (h : o.wp P a w (fun a' w' => S w' ∧ wpAnyH P .any ops Q S fuel (listed.setIfInBounds i true) a' w') Q) : wpAnyH P .any ops Q S n listed a w := by
  subst hn
  refine wpAnyH_all hr (by simp) (fun j hj => ?_)
  obtain rfl : j = i := by simpa using hj
  unfold wpOp
  simp only [ho]
  rw [if_pos (by unfold Region.wanted; rw [hg])]
  exact .inl h
theorem held_val {v : Value} {w' : World} {d : Nat} {op : Op} (ho : ops[i]? = some ⟨some d, op, ty, pos, af, none⟩) (hr : Region.ready .any ops listed = [i]) (hrun : (execOp a.eval ⟨some d, op, ty, pos, af, none⟩).run P w = .ok (.value v) w') (hS : S w')
    (h : wpAnyH P .any ops Q S fuel (listed.setIfInBounds i true) (a.put (some d) v) w') : wpAnyH P .any ops Q S (fuel + 1) listed a w :=
  held_one rfl ho hr rfl (by rw [Oper.wp, hrun]; exact ⟨hS, h⟩)
theorem held_skip {w' : World} {op : Op} (ho : ops[i]? = some ⟨none, op, ty, pos, af, none⟩) (hr : Region.ready .any ops listed = [i]) (hrun : (execOp a.eval ⟨none, op, ty, pos, af, none⟩).run P w = .ok .skip w') (hS : S w')
    (h : wpAnyH P .any ops Q S fuel (listed.setIfInBounds i true) a w') : wpAnyH P .any ops Q S (fuel + 1) listed a w :=
  held_one rfl ho hr rfl (by rw [Oper.wp, hrun]; exact ⟨hS, h⟩)
theorem held_call {k : Nat} {vs : Array Value} {R : Ending → World → Prop} {d : Nat} {op : Op} (ho : ops[i]? = some ⟨some d, op, ty, pos, af, none⟩) (hr : Region.ready .any ops listed = [i]) (hrun : (execOp a.eval ⟨some d, op, ty, pos, af, none⟩).run P w = .ok (.enter k vs) w) (hc : Calls P k vs w R)
    (h : ∀ e w', R e w' → ∃ v, e = .returned v ∧ S w' ∧ wpAnyH P .any ops Q S fuel (listed.setIfInBounds i true) (a.put (some d) v) w') : wpAnyH P .any ops Q S (fuel + 1) listed a w :=
  held_one rfl ho hr rfl (by
    rw [Oper.wp, hrun]
    refine hc.mono fun e w' he => ?_
    obtain ⟨v, rfl, h2⟩ := h e w' he
    exact h2)
end

/-- A region's operations, by its number. -/
def regOps (id : Nat) : Code → Array Oper
  | .region i ops _ => if i = id then ops else #[]
  | .seq a b | .cond _ a b => if (regOps id a).size = 0 then regOps id b else regOps id a
  | .block _ c | .loop c | .scope c => regOps id c
  | _ => #[]
/-- Behind a row that is written anew. -/
theorem below_setRow {N b : Nat} {w0 w : World} {cs : Array Value} (h : Below N w0 w) (hN : N ≤ b) : Below N w0 (w.setRow b cs) :=
  ⟨h.os, h.tape, h.output, by simpa using h.size, fun k hk => by
    rw [setRow_other w b k cs (by omega)]
    exact h.block k hk⟩
theorem below_drew {N : Nat} {w0 w : World} (h : Below N w0 w) : Below N w0 { w with drawn := w.drawn + 1 } := ⟨h.os, h.tape, h.output, h.size, h.block⟩
theorem below_trans {N : Nat} {w0 w w' : World} (h : Below N w0 w) (h2 : Below w.heap.size w w') (hN : N ≤ w.heap.size) : Below N w0 w' :=
  ⟨h2.os.trans h.os, h2.tape.trans h.tape, h2.output.trans h.output, Nat.le_trans h.size h2.size, fun k hk => (h2.block k (by omega)).trans (h.block k hk)⟩
theorem set_splice {l : List Value} {off : Nat} {v : Value} (h : off < l.length) : l.take off ++ [v] ++ l.drop (off + 1) = l.set off v := by
  rw [List.set_eq_take_append_cons_drop, if_pos h]; simp
end Go.Eng
/- Functions that hold loops over functions, and maps: their contracts out of their bodies' conditions. -/
namespace Go.Eng
open Go Go.RowKit

theorem TurnsB.refl (B : Nat) (w : World) : TurnsB B w w := ⟨rfl, rfl, rfl, Nat.le_refl _, fun _ _ => .inl rfl⟩
theorem TurnsB.trans {B : Nat} {w1 w2 w3 : World} (h : TurnsB B w1 w2) (k : TurnsB B w2 w3) : TurnsB B w1 w3 := by
  refine ⟨k.os.trans h.os, k.tape.trans h.tape, k.output.trans h.output, Nat.le_trans h.size k.size, fun i hi => ?_⟩
  rcases h.blk i hi with h1 | ⟨h1, o, o', h2, h3, h4, h5⟩ <;> rcases k.blk i (Nat.lt_of_lt_of_le hi h.size) with k1 | ⟨k1, q, q', k2, k3, k4, k5⟩
  · exact .inl (k1.trans h1)
  · exact .inr ⟨k1, q, q', h1 ▸ k2, k3, k4, k5⟩
  · exact .inr ⟨h1, o, o', h2, h3, k1.trans h4, h5⟩
  · exact .inr ⟨h1, o, q', h2, h3, k4, k5⟩

section
variable {P : Program} {n : Nat}
/-- The marks are taken in, one by one. -/
theorem leave_marks {fn : Func} {tmps : Array Value} {R : Ending → World → Prop} {B : Nat} : ∀ (ms : List Nat) (w : World), ms.Nodup → (∀ r ∈ ms, w.heap[r]? = some (.deferred (some [])) ∧ B ≤ r) →
    (∀ w', TurnsB B w w' → ∃ v, (results fn tmps).run P w' = .ok v w' ∧ R (.returned v) w') → LeavesInM Fence.wide 1 P fn tmps R (ms.map mark) .returning w
  | [], w, _, _, h => h w (.refl _ _)
  | r :: ms, w, hn, hm, h => by
    obtain ⟨h1, h2⟩ := List.nodup_cons.1 hn
    obtain ⟨hr, hB⟩ := hm r (by simp)
    refine ⟨by simp, .inl ⟨r, _, rfl, run_takeDeferred hr, ?_⟩⟩
    have ht : TurnsB B w (w.putObj r (.deferred none)) := .put hB hr rfl rfl
    refine leave_marks ms _ h2 (fun r' hr' => ?_) (fun w' hw' => h w' (ht.trans hw'))
    obtain ⟨k1, k2⟩ := hm r' (by simp [hr'])
    exact ⟨(World.putObj_heap_other (fun e => h1 (by rw [← e]; exact hr'))).trans k1, k2⟩

/-- How a body ends. -/
theorem body_end {N : En} {Φ : Nat → List D → D} {Pre : Nat → List D → Prop} {c : Code} {w0 w1 w : World} {S0 S1 : Base} {C : Cx} {G : Gh} {σ : St} {a : Act} {fn : Func} {R : Ending → World → Prop} (hg : Goes N Φ Pre c w0 S0 w1 S1) (hd0 : S0.dfs = []) (hnf : ¬ S0.fr) (hs : Sim n w1 S1 C G σ a w)
    (hn : N.its = [] → False) (h : ∀ w', Sim n w0 { S0 with dfs := a.defers } C G σ a w' → ∃ v, (results fn a.tmps).run P w' = .ok v w' ∧ R (.returned v) w') : LeavesInM Fence.wide 1 P fn a.tmps R a.defers .returning w := by
  obtain ⟨ms, hm1, hm2⟩ := hg.marks
  rw [hd0, List.append_nil] at hm1
  obtain ⟨ns, hn1, hn2, hn3⟩ := (hg.env.dfs hn).ex
  have hda : a.defers = ms.map mark := hs.defers.trans hm1
  have hmn : ms = ns := by
    rw [hm1] at hn1
    have inj : ∀ (l l' : List Nat), l.map mark = l'.map mark → l = l' := by
      intro l
      induction l with
      | nil => intro l' h; cases l' <;> simp at h ⊢
      | cons x l ih =>
        intro l' h
        cases l' with
        | nil => simp at h
        | cons y l' =>
          simp only [List.map_cons, List.cons.injEq] at h
          have hxy : x = y := by
            have := h.1
            unfold mark at this
            injection this with h1 h2
            injection h1
          rw [hxy, ih l' h.2]
    exact inj _ _ hn1
  subst hmn
  rw [hda]
  have hm0 : SimM w0 { S0 with dfs := a.defers } C G σ w := hs.m.rebase (hg.ext.dfs a.defers)
  refine leave_marks (B := w0.heap.size) ms w hn2 (fun r hr => ?_) (fun w' hw' => ?_)
  · obtain ⟨k1, k2⟩ := hn3 r hr
    exact ⟨(hs.m.below.block r (Array.getElem?_eq_some_iff.1 k1).1 k2).trans k1, hm2 r hr⟩
  · have ht : Turns w0 { S0 with dfs := a.defers } w w' := hw'.to (Nat.le_refl _)
    exact h w' ⟨hm0.turns ht hnf, hs.t.later (ht.later hm0), hs.sz, rfl⟩

/-- A call, out of what its body leaves. -/
theorem calls_of_marks {f : Nat} {fn : Func} {c : Code} {args : Array Value} {w : World} {R : Ending → World → Prop} (hf : P.funcs[f]? = some fn) (hb : fn.body = some c)
    (h : c.wp P (bodyPostM Fence.wide 1 P fn R) { tmps := args ++ Array.replicate (fn.ntmps - args.size) undef, defers := [] } w) : Calls P f args w R :=
  (callsIn_wide (n := 1)).1 (callsIn_of_wp_marks hf hb trivial (wpIn_wide.2 h))
end

/-- What may be handed to a walk besides plain contracts. -/
structure XTbl where
  mp : List (TypeId × Ty)
  et : List (Nat × EatSig)
  its : List (Nat × (List Ty × Ty))

section
variable {P : Program}
theorem pureFnR_of_vc {f : Nat} {fn : Func} {c : Code} {sig : Sig} {Pre0 : List D → Prop} {Φ0 : List D → D} (cs : Tbl) (its : List (Nat × (List Ty × Ty))) (Φ : Nat → List D → D) (Pre : Nat → List D → Prop) (anns : List (Nat × Ann)) (v : VC)
    (hf : P.funcs[f]? = some fn) (hb : fn.body = some c) (hname : (fn.name == "runtime.NumGoroutine") = false) (hmix : P.follows .mixedOrders = true)
    (hps : sig.params.length ≤ fn.ntmps) (hob : sig.ob = none) (hfr0 : cs.fr = 0) (hnofr : noFr sig.res = true)
    (hcon : ∀ k sig, lk cs.l k = some sig → PureFn P k sig (Pre k) (Φ k)) (hkeys : ∀ T kt, lk cs.mp T = some kt → KeyOk P T kt) (heat : ∀ k sg, lk cs.et k = some sg → EatFn P k sg (Pre k) (Φ k))
    (hits : ∀ k y, lk its k = some y → IterFn P k y.1 y.2 (Pre k) (Φ k)) (hne : its ≠ [])
    (hv : vc ⟨P, cs, fn.ntmps, anns, [], [], its⟩ c (fun ex σ _ _ => match ex with | .exit _ => .stuck 20 | _ => retVC P sig fn σ) (St.start sig.params) sig.params.length 0 = v)
    (hc : ∀ ds, HasL (.ofL sig.params) ds → Pre0 ds → v.holds Φ Pre (fun d => d = Φ0 ds) (fun i => ds.getD i .top) []) : PureFn P f sig Pre0 Φ0 where
  enter args w := by
    unfold callFunc
    have hbs : fn.body.isNone = false := by rw [hb]; rfl
    have hname' : fn.name ≠ "runtime.NumGoroutine" := by simpa using hname
    simp [hf, hb, hname']
  ocalls ob hob' := by rw [hob] at hob'; cases hob'
  pcalls ob hob' := by rw [hob] at hob'; cases hob'
  calls _ w S vs ds hSlt hlen hrep hty hpre := by
    refine calls_of_marks hf hb ?_
    have hcond := hc ds hty hpre
    rw [← hv] at hcond
    have hbase : VEnv ⟨P, cs, fn.ntmps, anns, [], [], its⟩ Φ Pre w ⟨S, fun _ => False, fun _ => none, False, False, P, []⟩ :=
      ⟨fun _ _ _ _ _ _ b o hb => by
        rintro (h | h)
        · exact absurd (hSlt b o hb) (by show ¬ b < w.heap.size; have : w.heap.size ≤ b := h; omega)
        · exact h, ⟨fun h => h.elim, fun h => h.elim, rfl, hkeys, heat⟩, fun h => by have : cs.fr = 2 := h; omega, fun _ => ⟨[], rfl, List.nodup_nil, by simp⟩⟩
    refine vc_soundX (N := ⟨P, cs, fn.ntmps, anns, [], [], its⟩) hmix hcon (fun _ _ h => by cases h) (fun _ _ h => by cases h) hits c none _ _ _ 0 _ [] _ w ⟨S, fun _ => False, fun _ => none, False, False, P, []⟩ hbase (fun h => by cases h) hcond rfl (fun i b h => by cases h) ?_ _ w _ (sim_start hSlt hlen hrep hty hps)
    intro w1 S1 hg ex σ' p' d' ρ' stk' a' w' G' _ _ _ _ _ hk hs1
    have fin : (retVC P sig fn σ').holds Φ Pre (fun d => d = Φ0 ds) ρ' stk' → LeavesInM Fence.wide 1 P fn a'.tmps (fun e w' => ∃ v S' τ, e = .returned v ∧ Below w.heap.size w w' ∧ (∀ b o, S b o → S' b o) ∧ (∀ b o, S' b o → b < w'.heap.size) ∧ (∀ b o, S' b o → S b o ∨ w.heap.size ≤ b) ∧
      ResOk w' 0 S' τ sig.res v (Φ0 ds) ∧ (∀ j b, j ∈ ownIdx sig.res → (τ j).ownBlock = some b → w.heap.size ≤ b) ∧ (∀ j k b, j ∈ ownIdx sig.res → k ∈ ownIdx sig.res → (τ j).ownBlock = some b → (τ k).ownBlock = some b → j = k) ∧
      ∀ j, j ∈ ownIdx sig.res → frN j = true → FrV (fun b => w.heap.size ≤ b) w' S' (τ j)) a'.defers .returning w' := by
      intro hk
      refine body_end hg rfl (fun h => h) hs1 hne ?_
      intro w2 hs
      unfold retVC at hk
      split at hk
      · rename_i es l hret
        split at hk
        · rename_i hok
          have hok0 := hok
          unfold ownOkB at hok
          simp only [Bool.and_eq_true, decide_eq_true_eq] at hok
          obtain ⟨hnt, hnj⟩ := hok
          have hlive := retComps_live hret
          obtain ⟨us, h1, h2, h3, h4, h5⟩ := run_retComps (L := l) hs hnj hret (fun x hx => hx)
          refine ⟨_, run_results h1, _, G'.S, τOf G' l, rfl, hs.m.below.to (fun _ h => h), hs.m.foot0, hs.m.footlt, fun b o hb => (hs.m.footnew b o hb).imp (fun h => h) (fun h => h.elim (fun h => h) (fun h => h.elim)), ?_, ?_, ?_, ?_⟩
          · split at hk
            · rename_i r e hres
              have hd : den ρ' e = Φ0 ds := hk
              rw [hres] at h2 h5 ⊢
              obtain ⟨u, rfl⟩ : ∃ u, us = [u] := List.length_eq_one_iff.1 h2
              exact .inl ⟨r, rfl, by rw [← hd]; exact h5 0 r u e rfl rfl rfl⟩
            · rename_i es1 _ es2 hne
              have hd : den ρ' (.un .tup (.ofL _)) = Φ0 ds := hk
              have hl1 : sig.res.length ≠ 1 := by
                intro h
                obtain ⟨r, hr⟩ := List.length_eq_one_iff.1 h
                obtain ⟨e, he⟩ := List.length_eq_one_iff.1 (h3.trans h)
                exact hne r e hr he
              have hmt : resVal us = .tuple us.toArray := by
                match us, h2 with
                | [], _ => rfl
                | [u], h2 => exact absurd h2.symm hl1
                | _ :: _ :: _, _ => rfl
              rw [hmt]
              refine .inr ⟨hl1, us, es1.map (den ρ'), rfl, by rw [← hd]; simp only [den, den_ofL, U.den, D.toL], h2, by simp [h3], fun i r u y hr hu hy => ?_⟩
              simp only [List.getElem?_map, Option.map_eq_some_iff] at hy
              obtain ⟨e, he, rfl⟩ := hy
              exact h5 i r u e hr hu he
          · intro j b hj hb
            rw [own_retComps hret] at hj
            obtain ⟨g, hgl, hgb⟩ := own_tag hok0 hj hb
            obtain ⟨z, hz⟩ := hlive _ _ hgl
            exact (hs.m.ownnew g z b hz hgb).elim (fun h => h) (fun h => h.elim)
          · intro j k b hj hk' hbj hbk
            rw [own_retComps hret] at hj hk'
            exact own_apart hs.m hok0 hlive hj hk' hbj hbk
          · intro j hj hfj
            have := List.all_eq_true.1 hnofr j hj
            rw [hfj] at this; cases this
        · exact hk.elim
      · exact hk.elim
    cases ex with
    | normal => exact fin hk
    | ret => exact fin hk
    | exit i => exact hk.elim

/-- The state in which a function begins that uses a slice and a map up. -/
def St.startE (sg : EatSig) : St :=
  let m := sg.ps.length
  ⟨fun t => if t = m then some ([], .one (.xo (m, 1000) sg.t)) else if t = m + 1 then some ([], .one (.mref (m + 1))) else match sg.ps[t]? with | some ty => some ([], .one (.dat (.var t) ty)) | none => none,
   fun i => if i = m + 1 then some (false, [.mcon (.var (m + 1)) sg.kt sg.TM]) else none,
   fun g => if g = (m, 1000) then some (.var m, sg.T, sg.t) else none⟩
def eatRes (sg : EatSig) : List (Bool × List RCell) := [(false, [(sg.t, some (1000, sg.T))])]

theorem eatFn_of_vc {f : Nat} {fn : Func} {c : Code} {sg : EatSig} {Pre0 : List D → Prop} {Φ0 : List D → D} (cs : Tbl) (its : List (Nat × (List Ty × Ty))) (Φ : Nat → List D → D) (Pre : Nat → List D → Prop) (anns : List (Nat × Ann)) (v : VC)
    (hf : P.funcs[f]? = some fn) (hb : fn.body = some c) (hname : (fn.name == "runtime.NumGoroutine") = false) (hmix : P.follows .mixedOrders = true)
    (hps : sg.ps.length + 2 ≤ fn.ntmps) (hfr0 : cs.fr = 0) (hpl : (cs.l.all fun x => match x.2.ob with | some ob => !ob.isPl | none => true) = true)
    (hcon : ∀ k sig, lk cs.l k = some sig → PureFn P k sig (Pre k) (Φ k)) (hkeys : ∀ T kt, lk cs.mp T = some kt → KeyOk P T kt) (heat : ∀ k sg, lk cs.et k = some sg → EatFn P k sg (Pre k) (Φ k))
    (hits : ∀ k y, lk its k = some y → IterFn P k y.1 y.2 (Pre k) (Φ k)) (hne : its ≠ [])
    (hv : vc ⟨P, cs, fn.ntmps, anns, [], [], its⟩ c (fun ex σ _ _ => match ex with | .exit _ => .stuck 20 | _ => retVC P ⟨[], eatRes sg, none⟩ fn σ) (St.startE sg) (sg.ps.length + 2) 0 = v)
    (hc : ∀ ds lo lm, HasL (.ofL sg.ps) ds → Has (.list sg.t) lo → Has (.list sg.kt) lm → Pre0 (ds ++ [lo, lm]) → v.holds Φ Pre (fun d => d = Φ0 (ds ++ [lo, lm])) (fun i => (ds ++ [lo, lm]).getD i .top) []) : EatFn P f sg Pre0 Φ0 where
  enter args w := by
    unfold callFunc
    have hbs : fn.body.isNone = false := by rw [hb]; rfl
    have hname' : fn.name ≠ "runtime.NumGoroutine" := by simpa using hname
    simp [hf, hb, hname']
  calls w S vs ds vo lo bm lm hSlt hlen hrep hty hOD hlm hmap hnS hpre := by
    refine calls_of_marks hf hb ?_
    have hdl : ds.length = sg.ps.length := by rw [hasL_len hty, Ty.toL_ofL]
    have hcond := hc ds lo lm hty hOD.has hlm hpre
    rw [← hv] at hcond
    have hob0 : ∀ b, vo.ownBlock = some b → (∃ cur T, w.heap[b]? = some (.cells cur T (0, 0))) ∧ ∀ o, ¬ S b o := by
      intro b hb'
      obtain ⟨xs, l, _, q2, q3, _⟩ := hOD.own
      refine ⟨?_, fun o ho => by have := (q3 b hb' o).1 ho; cases this.1⟩
      rcases q2.2 with ⟨hv, _⟩ | ⟨b', cap, cur, hv, _, hg, _⟩
      · rw [hv] at hb'; cases hb'
      · rw [hv] at hb'; simp only [Value.ownBlock, Option.some.injEq] at hb'; subst hb'; exact ⟨_, _, hg⟩
    have hbne : ∀ b, vo.ownBlock = some b → b ≠ bm := by
      rintro b hb' rfl
      obtain ⟨⟨cur, T, hcur⟩, _⟩ := hob0 b hb'
      exact hmap.notCells hcur
    let m := sg.ps.length
    let S0 : Base := ⟨S, fun b => vo.ownBlock = some b ∨ b = bm, fun i => if i = m + 1 then some bm else none, False, False, P, []⟩
    let G0 : Gh := ⟨S, fun _ => bm, fun g => if g = (m, 1000) then vo else .nilIface⟩
    let ρ0 : Nat → D := fun i => (ds ++ [lo, lm]).getD i .top
    let C0 : Cx := ⟨ρ0, m + 2, fun i => i < m + 2⟩
    have hρm : den ρ0 (.var m) = lo := by
      show (ds ++ [lo, lm]).getD m .top = lo
      have : (ds ++ [lo, lm])[m]? = some lo := by rw [List.getElem?_append_right (by omega)]; simp [hdl, m]
      exact toL_getD this
    have hρm1 : den ρ0 (.var (m + 1)) = lm := by
      show (ds ++ [lo, lm]).getD (m + 1) .top = lm
      have : (ds ++ [lo, lm])[m + 1]? = some lm := by rw [List.getElem?_append_right (by omega)]; simp [hdl, m]
      exact toL_getD this
    have hbase : VEnv ⟨P, cs, fn.ntmps, anns, [], [], its⟩ Φ Pre w S0 :=
      ⟨fun k sig ob h1 h2 h3 => by
        have := List.all_eq_true.1 hpl _ (lk_mem h1)
        simp only [h2, h3] at this
        exact (Bool.noConfusion this), ⟨fun h => h.elim, fun h => h.elim, rfl, hkeys, heat⟩, fun h => by have : cs.fr = 2 := h; omega, fun _ => ⟨[], rfl, List.nodup_nil, by simp⟩⟩
    have hstart : Sim fn.ntmps w S0 C0 G0 (St.startE sg) ⟨(vs ++ [vo, .map (some bm)]).toArray ++ Array.replicate (fn.ntmps - (vs ++ [vo, .map (some bm)]).toArray.size) undef, []⟩ w := by
      have hliveE : ∀ g x, (St.startE sg).live g = some x → g = (m, 1000) ∧ x = (.var m, sg.T, sg.t) := by
        intro g x hx
        simp only [St.startE] at hx
        split at hx
        · rename_i hg; injection hx with hx; exact ⟨hg, hx.symm⟩
        · cases hx
      have hhpE : ∀ id x, (St.startE sg).hp id = some x → id = m + 1 ∧ x = (false, [.mcon (.var (m + 1)) sg.kt sg.TM]) := by
        intro id x hx
        simp only [St.startE] at hx
        split at hx
        · rename_i hg; injection hx with hx; exact ⟨hg, hx.symm⟩
        · cases hx
      refine ⟨⟨BelowX.refl _ _, fun _ _ h => h, fun _ _ _ => rfl, ?_, fun _ _ _ => trivial, hSlt, fun _ _ h => .inl h, ?_, ?_, ?_, ?_, ?_, ?_, ?_, fun h => h.elim, fun h => h.elim⟩, ?_, ?_, rfl⟩
      · intro i b hi
        simp only [S0] at hi
        split at hi
        · rename_i hi'; injection hi with hi; subst hi'; exact ⟨by show m + 1 < m + 2; omega, hi⟩
        · cases hi
      · intro id x hx
        obtain ⟨rfl, _⟩ := hhpE id x hx
        show m + 1 < m + 2; omega
      · intro id ro cs' hx
        obtain ⟨rfl, hx2⟩ := hhpE id _ hx
        simp only [Prod.mk.injEq] at hx2
        obtain ⟨rfl, rfl⟩ := hx2
        refine ⟨.inr ⟨.inr rfl, m + 1, if_pos rfl⟩, rfl, ?_, by simp only [Bool.false_eq_true, if_false]; exact hnS⟩
        show (E.var (m + 1)).lt (m + 2) = true ∧ Has (.list sg.kt) (den ρ0 (.var (m + 1))) ∧ MapOk P w bm sg.TM sg.kt (den ρ0 (.var (m + 1))).toL
        rw [hρm1]
        exact ⟨by simp [E.lt], hlm, hmap⟩
      · intro i j x y hi hj _
        rw [(hhpE i x hi).1, (hhpE j y hj).1]
      · intro g e T t hx
        obtain ⟨rfl, hx2⟩ := hliveE g _ hx
        simp only [Prod.mk.injEq] at hx2
        obtain ⟨rfl, rfl, rfl⟩ := hx2
        have hτ : G0.τ (m, 1000) = vo := if_pos rfl
        obtain ⟨xs, l, q1, q2, q3, q4⟩ := hOD.own
        refine ⟨by show m < m + 2; omega, by simp [E.lt, C0], by rw [show den C0.ρ (.var m) = lo from hρm]; exact hOD.has, xs, l, by rw [show den C0.ρ (.var m) = lo from hρm]; exact q1, by rw [hτ]; exact q2, by rw [hτ]; exact q3, q4⟩
      · intro g x b hx hb'
        obtain ⟨rfl, _⟩ := hliveE g x hx
        have hτ : G0.τ (m, 1000) = vo := if_pos rfl
        rw [hτ] at hb'
        exact .inr (.inl hb')
      · intro g g' x y b hx hy _ _
        rw [(hliveE g x hx).1, (hliveE g' y hy).1]
      · intro g id x y b hx hy hb'
        obtain ⟨rfl, _⟩ := hliveE g x hx
        have hτ : G0.τ (m, 1000) = vo := if_pos rfl
        rw [hτ] at hb'
        exact hbne b hb'
      · intro t c s hts
        have hvl : (vs ++ [vo, Value.map (some bm)]).length = m + 2 := by simp [hlen, hdl, m]
        have hget : ∀ (t : Nat) (v : Value), (vs ++ [vo, Value.map (some bm)])[t]? = some v → ((vs ++ [vo, Value.map (some bm)]).toArray ++ Array.replicate (fn.ntmps - (vs ++ [vo, Value.map (some bm)]).toArray.size) undef)[t]? = some v := by
          intro t v hv
          have htl : t < (vs ++ [vo, Value.map (some bm)]).length := (List.getElem?_eq_some_iff.1 hv).1
          rw [Array.getElem?_append_left (by simpa using htl)]
          simpa using hv
        simp only [St.startE] at hts
        split at hts
        · rename_i htm
          subst htm
          injection hts with hts; simp only [Prod.mk.injEq] at hts; obtain ⟨rfl, rfl⟩ := hts
          refine ⟨vo, hget _ _ (by rw [List.getElem?_append_right (by omega)]; simp [hlen, hdl]), by simp, rfl, ?_⟩
          simp only [condB, List.all_nil, if_true]
          refine ⟨by show m < m + 2; omega, (if_pos rfl).symm, ?_⟩
          obtain ⟨xs, l, q1, q2, q3, q4⟩ := hOD.own
          rcases q2.2 with ⟨hv, _⟩ | ⟨b, cap, cur, hv, _⟩
          · rw [hv]; exact ⟨_, _, _, rfl⟩
          · rw [hv]; exact ⟨_, _, _, rfl⟩
        · split at hts
          · rename_i htm
            subst htm
            injection hts with hts; simp only [Prod.mk.injEq] at hts; obtain ⟨rfl, rfl⟩ := hts
            refine ⟨.map (some bm), hget _ _ (by rw [List.getElem?_append_right (by omega)]; simp [hlen, hdl]), by simp, rfl, ?_⟩
            simp only [condB, List.all_nil, if_true]
            exact ⟨by show m + 1 < m + 2; omega, rfl⟩
          · split at hts
            · rename_i ty hty'
              injection hts with hts; simp only [Prod.mk.injEq] at hts; obtain ⟨rfl, rfl⟩ := hts
              have htl : t < sg.ps.length := (List.getElem?_eq_some_iff.1 hty').1
              have hdt : ds[t]? = some (ds[t]'(by omega)) := List.getElem?_eq_getElem _
              have hvt : vs[t]? = some (vs[t]'(by omega)) := List.getElem?_eq_getElem _
              obtain ⟨x, hx, hxh⟩ := hasL_get hty t ty (by rw [Ty.toL_ofL]; exact hty')
              rw [hdt] at hx; injection hx with hx
              have hden : den ρ0 (.var t) = ds[t]'(by omega) := by
                show (ds ++ [lo, lm]).getD t .top = _
                exact toL_getD (by rw [List.getElem?_append_left (by omega)]; exact hdt)
              refine ⟨vs[t]'(by omega), hget _ _ (by rw [List.getElem?_append_left (by omega)]; exact hvt), by simp, by simp only [SV.lt, SC.lt, E.lt, decide_eq_true_eq]; show t < m + 2; omega, ?_⟩
              simp only [condB, List.all_nil, if_true]
              refine ⟨by simp only [E.lt, decide_eq_true_eq]; show t < m + 2; omega, ?_, ?_⟩
              · show Rep w S _ (den ρ0 (.var t))
                rw [hden]; exact hrep t _ _ hvt hdt
              · show Has ty (den ρ0 (.var t))
                rw [hden, hx]; exact hxh
            · cases hts
      · simp [hlen, hdl]; omega
    refine vc_soundX (N := ⟨P, cs, fn.ntmps, anns, [], [], its⟩) hmix hcon (fun _ _ h => by cases h) (fun _ _ h => by cases h) hits c none _ _ _ 0 _ [] _ w S0 hbase (fun h => by cases h) hcond rfl (fun i b h => ?_) ?_ _ w _ hstart
    · simp only [S0] at h
      split at h
      · show i < m + 2; omega
      · cases h
    intro w1 S1 hg ex σ' p' d' ρ' stk' a' w' G' _ _ _ _ _ hk hs1
    have fin : (retVC P ⟨[], eatRes sg, none⟩ fn σ').holds Φ Pre (fun d => d = Φ0 (ds ++ [lo, lm])) ρ' stk' → LeavesInM Fence.wide 1 P fn a'.tmps (fun e w' => ∃ v S', e = .returned v ∧ BelowX (fun b => vo.ownBlock = some b ∨ b = bm) w w' ∧ (∀ b o, S b o → S' b o) ∧ (∀ b o, S' b o → b < w'.heap.size) ∧
      (∀ b o, S' b o → S b o ∨ w.heap.size ≤ b ∨ vo.ownBlock = some b ∨ b = bm) ∧ (∀ b o, S b o → w'.cell? ⟨b, o, none⟩ = w.cell? ⟨b, o, none⟩) ∧ OwnD true w' 0 S' sg.T sg.t v (Φ0 (ds ++ [lo, lm])) ∧
      ∀ b, v.ownBlock = some b → w.heap.size ≤ b ∨ vo.ownBlock = some b ∨ b = bm) a'.defers .returning w' := by
      intro hk
      refine body_end hg rfl (fun h => h) hs1 hne ?_
      intro w2 hs
      unfold retVC at hk
      split at hk
      · rename_i es l hret
        split at hk
        · rename_i hok
          have hok0 := hok
          unfold ownOkB at hok
          simp only [Bool.and_eq_true, decide_eq_true_eq] at hok
          obtain ⟨hnt, hnj⟩ := hok
          have hlive := retComps_live hret
          obtain ⟨us, h1, h2, h3, h4, h5⟩ := run_retComps (L := l) hs hnj hret (fun x hx => hx)
          have h2' : us.length = 1 := h2
          have h3' : es.length = 1 := h3
          obtain ⟨u, rfl⟩ : ∃ u, us = [u] := List.length_eq_one_iff.1 h2'
          obtain ⟨e, rfl⟩ : ∃ e, es = [e] := List.length_eq_one_iff.1 h3'
          have hd : den ρ' e = Φ0 (ds ++ [lo, lm]) := hk
          have h6 := h5 0 (false, [(sg.t, some (1000, sg.T))]) u e rfl rfl rfl
          obtain ⟨x, hx, h7⟩ := h6
          injection hx with hx _
          subst hx
          obtain ⟨h8, h9⟩ := h7
          have h9' : OwnD true w2 0 G'.S sg.T sg.t u (den ρ' e) := by rw [h8]; exact h9
          refine ⟨_, run_results h1, u, G'.S, rfl, hs.m.below, hs.m.foot0, hs.m.footlt, fun b o hb => hs.m.footnew b o hb, hs.m.keep, by rw [← hd]; exact h9', ?_⟩
          intro b hb
          rw [h8] at hb
          have hj : (1000 : Nat) ∈ l.map (·.1) := by rw [← own_retComps hret]; simp [eatRes, ownIdx]
          obtain ⟨g, hgl, hgb⟩ := own_tag hok0 hj hb
          obtain ⟨z, hz⟩ := hlive _ _ hgl
          exact hs.m.ownnew g z b hz hgb
        · exact hk.elim
      · exact hk.elim
    cases ex with
    | normal => exact fin hk
    | ret => exact fin hk
    | exit i => exact hk.elim
end

def fvcX (P : Program) (cs : List (Nat × Sig)) (x : XTbl) (given : List (Nat × Ann)) (sig : Sig) (fn : Func) : VC :=
  match fn.body with
  | some c => vc ⟨P, ⟨cs, exOf given fn.body, 0, x.mp, x.et⟩, fn.ntmps, autoAnn P given fn.body, [], [], x.its⟩ c (fun ex σ _ _ => match ex with | .exit _ => .stuck 20 | _ => retVC P sig fn σ) (St.start sig.params) sig.params.length 0
  | none => .stuck 30
def fvcE (P : Program) (cs : List (Nat × Sig)) (x : XTbl) (given : List (Nat × Ann)) (sg : EatSig) (fn : Func) : VC :=
  match fn.body with
  | some c => vc ⟨P, ⟨cs, exOf given fn.body, 0, x.mp, x.et⟩, fn.ntmps, autoAnn P given fn.body, [], [], x.its⟩ c (fun ex σ _ _ => match ex with | .exit _ => .stuck 20 | _ => retVC P ⟨[], eatRes sg, none⟩ fn σ) (St.startE sg) (sg.ps.length + 2) 0
  | none => .stuck 30
/-- What is known of the tables. -/
structure XOk (P : Program) (Pre : Nat → List D → Prop) (Φ : Nat → List D → D) (x : XTbl) : Prop where
  keys : ∀ T kt, lk x.mp T = some kt → KeyOk P T kt
  eat : ∀ k sg, lk x.et k = some sg → EatFn P k sg (Pre k) (Φ k)
  its : ∀ k y, lk x.its k = some y → IterFn P k y.1 y.2 (Pre k) (Φ k)
  ne : x.its ≠ []
theorem pureFn_autoX {P : Program} {f : Nat} {fn : Func} {sig : Sig} {Pre0 : List D → Prop} {Φ0 : List D → D} {cs : List (Nat × Sig)} {x : XTbl} {Φ : Nat → List D → D} {Pre : Nat → List D → Prop} {given : List (Nat × Ann)} {v : VC}
    (hmix : P.follows .mixedOrders = true) (hcon : Con P Pre Φ cs) (hx : XOk P Pre Φ x) (hf : P.funcs[f]? = some fn) (hB : fnB fn sig = true) (hv : fvcX P cs x given sig fn = v)
    (hc : ∀ ds, HasL (.ofL sig.params) ds → Pre0 ds → v.holds Φ Pre (fun d => d = Φ0 ds) (fun i => ds.getD i .top) []) (hnf : noFr sig.res = true := by rfl) : PureFn P f sig Pre0 Φ0 := by
  unfold fnB at hB
  simp only [Bool.and_eq_true, decide_eq_true_eq] at hB
  obtain ⟨⟨⟨h0, h1⟩, h2⟩, h3⟩ := hB
  obtain ⟨c, hb⟩ := Option.isSome_iff_exists.1 h1
  refine pureFnR_of_vc ⟨cs, exOf given fn.body, 0, x.mp, x.et⟩ x.its Φ Pre (autoAnn P given fn.body) v hf hb (by simpa using h2) hmix h3 (by simpa using h0) rfl hnf hcon hx.keys hx.eat hx.its hx.ne ?_ hc
  unfold fvcX at hv
  rw [hb] at hv ⊢
  exact hv
theorem eatFn_auto {P : Program} {f : Nat} {fn : Func} {sg : EatSig} {Pre0 : List D → Prop} {Φ0 : List D → D} {cs : List (Nat × Sig)} {x : XTbl} {Φ : Nat → List D → D} {Pre : Nat → List D → Prop} {given : List (Nat × Ann)} {v : VC}
    (hmix : P.follows .mixedOrders = true) (hcon : Con P Pre Φ cs) (hx : XOk P Pre Φ x) (hf : P.funcs[f]? = some fn) (hB : (fn.body.isSome && !(fn.name == "runtime.NumGoroutine") && decide (sg.ps.length + 2 ≤ fn.ntmps) && cs.all fun x => match x.2.ob with | some ob => !ob.isPl | none => true) = true)
    (hv : fvcE P cs x given sg fn = v)
    (hc : ∀ ds lo lm, HasL (.ofL sg.ps) ds → Has (.list sg.t) lo → Has (.list sg.kt) lm → Pre0 (ds ++ [lo, lm]) → v.holds Φ Pre (fun d => d = Φ0 (ds ++ [lo, lm])) (fun i => (ds ++ [lo, lm]).getD i .top) []) : EatFn P f sg Pre0 Φ0 := by
  simp only [Bool.and_eq_true, decide_eq_true_eq] at hB
  obtain ⟨⟨⟨h1, h2⟩, h3⟩, h4⟩ := hB
  obtain ⟨c, hb⟩ := Option.isSome_iff_exists.1 h1
  refine eatFn_of_vc ⟨cs, exOf given fn.body, 0, x.mp, x.et⟩ x.its Φ Pre (autoAnn P given fn.body) v hf hb (by simpa using h2) hmix h3 rfl h4 hcon hx.keys hx.eat hx.its hx.ne ?_ hc
  unfold fvcE at hv
  rw [hb] at hv ⊢
  exact hv
end Go.Eng
/- Plain laws for what is looked for in lists. -/
namespace Go.Eng
open Go Go.RowKit

def I (d : D) (j : Nat) : Int := (d.toL.getD j .top).toI
def L (d : D) (j : Nat) : List D := (d.toL.getD j .top).toL
def fnId : D → Nat
  | .fn f _ => f
  | _ => 0

/-- The place of the first that is such; -1: there is none. -/
def findI (p : D → Bool) (l : List D) : Int := match l.findIdx? p with
  | some i => i
  | none => -1

theorem findI_none {p : D → Bool} {l : List D} (h : (l.all fun x => !p x) = true) : findI p l = -1 := by
  have : l.findIdx? p = none := by
    rw [List.findIdx?_eq_none_iff]
    intro x hx
    simpa using List.all_eq_true.1 h x hx
  unfold findI; rw [this]
theorem findI_hit {p : D → Bool} {l : List D} {i : Nat} {d : D} (h : ((l.take i).all fun x => !p x) = true) (hi : l[i]? = some d) (hp : p d = true) : findI p l = i := by
  obtain ⟨hlt, hd⟩ := List.getElem?_eq_some_iff.1 hi
  have : l.findIdx? p = some i := by
    rw [List.findIdx?_eq_some_iff_getElem]
    refine ⟨hlt, by rw [hd]; exact hp, fun j hj => ?_⟩
    have := List.all_eq_true.1 h (l[j]'(by omega)) (by rw [List.mem_take_iff_getElem]; exact ⟨j, by omega, rfl⟩)
    simpa using this
  unfold findI; rw [this]
theorem findI_cases (p : D → Bool) (l : List D) : findI p l = -1 ∨ ∃ (i : Nat) (h : i < l.length), findI p l = i ∧ p l[i] = true := by
  unfold findI
  cases h : l.findIdx? p with
  | none => exact .inl rfl
  | some i =>
    obtain ⟨hlt, hp, _⟩ := List.findIdx?_eq_some_iff_getElem.1 h
    exact .inr ⟨i, hlt, rfl, hp⟩
theorem findI_cong {p q : D → Bool} {l : List D} (h : ∀ x ∈ l, p x = q x) : findI p l = findI q l := by
  unfold findI
  have : l.findIdx? p = l.findIdx? q := by
    induction l with
    | nil => rfl
    | cons a l ih =>
      rw [List.findIdx?_cons, List.findIdx?_cons, h a (by simp), ih (fun x hx => h x (by simp [hx]))]
  rw [this]

theorem all_take_succ {l : List D} {p : D → Bool} {i : Nat} {d : D} (h : l[i]? = some d) : (l.take (i + 1)).all p = ((l.take i).all p && p d) := by
  rw [List.take_add_one, h]
  simp
theorem next64 {i n : Nat} (hn : n ≤ maxLen) (hi : i < n) : IntKind.wrap .i64 ((i : Int) + 1) = (i : Int) + 1 := by
  have : maxLen ≤ 9223372036854775807 := by decide
  exact wrap64 (by omega) (by omega)
/-- A loop that looks for the first: its rounds. -/
def Seek (p : D → Bool) (l : List D) (xs : List D) : Prop := ∃ (i : Nat) (k : Int), i ≤ l.length ∧ xs = [.int .i64 k, .int .i64 i] ∧ ((l.take i).all fun x => !p x) = true
def seekM (l : List D) (xs : List D) : Nat := l.length - (I (.list xs) 1).toNat
theorem seek_start (p : D → Bool) (l : List D) : Seek p l [.int .i64 0, .int .i64 0] := ⟨0, 0, Nat.zero_le _, rfl, rfl⟩
theorem seek_step {p : D → Bool} {l : List D} {i : Nat} {k : Int} {d : D} (h : Seek p l [.int .i64 k, .int .i64 i]) (hi : l[i]? = some d) (hp : p d = false) :
    Seek p l [.int .i64 k, .int .i64 ((i : Int) + 1)] ∧ seekM l [.int .i64 k, .int .i64 ((i : Int) + 1)] < seekM l [.int .i64 k, .int .i64 i] := by
  obtain ⟨hlt, _⟩ := List.getElem?_eq_some_iff.1 hi
  obtain ⟨i', k', _, he, ha⟩ := h
  simp only [List.cons.injEq, D.int.injEq, true_and, and_true] at he
  obtain ⟨rfl, he⟩ := he
  have : i = i' := by omega
  subst this
  refine ⟨⟨i + 1, k, hlt, by simp, ?_⟩, ?_⟩
  · rw [all_take_succ hi, ha, hp]; rfl
  · show l.length - ((i : Int) + 1).toNat < l.length - (i : Int).toNat
    omega
theorem seek_hit {p : D → Bool} {l : List D} {i : Nat} {k : Int} {d : D} (h : Seek p l [.int .i64 k, .int .i64 i]) (hi : l[i]? = some d) (hp : p d = true) : findI p l = i := by
  obtain ⟨i', k', _, he, ha⟩ := h
  simp only [List.cons.injEq, D.int.injEq, true_and, and_true] at he
  obtain ⟨_, he⟩ := he
  have : i = i' := by omega
  subst this
  exact findI_hit ha hi hp
theorem seek_end {p : D → Bool} {l : List D} {i : Nat} {k : Int} (h : Seek p l [.int .i64 k, .int .i64 i]) (hi : l.length ≤ i) : findI p l = -1 := by
  obtain ⟨i', k', hle, he, ha⟩ := h
  simp only [List.cons.injEq, D.int.injEq, true_and, and_true] at he
  obtain ⟨_, he⟩ := he
  have : i' = l.length := by omega
  subst this
  rw [List.take_length] at ha
  exact findI_none ha
theorem seek_inv {p : D → Bool} {l : List D} {xs : List D} (h : Seek p l xs) : ∃ (i : Nat) (k : Int), i ≤ l.length ∧ xs = [.int .i64 k, .int .i64 i] := by
  obtain ⟨i, k, h1, h2, _⟩ := h; exact ⟨i, k, h1, h2⟩
end Go.Eng
/- The api's data, typed: records, how each stands as a datum, and that every datum of its type is one. -/
set_option linter.unusedSimpArgs false
namespace Go.Eng
open Go Go.RowKit

def B1 (d : D) (j : Nat) : Bool := (d.toL.getD j .top).toB
def in64 (n : Int) : Prop := inK .i64 n
theorem in64_iff {n : Int} : in64 n ↔ -9223372036854775808 ≤ n ∧ n ≤ 9223372036854775807 := inK64
/-- A list's data. -/
def encL {α : Type} (enc : α → D) (l : List α) : D := .list (l.map enc)
theorem encL_toL {α : Type} (enc : α → D) (l : List α) : (encL enc l).toL = l.map enc := rfl
theorem list_map_encL {α : Type} (enc : α → D) (l : List α) : D.list (l.map enc) = encL enc l := rfl
theorem all_enc {α : Type} {t : Ty} {enc : α → D} {ok : α → Prop} (h : ∀ d, Has t d → ∃ a, d = enc a ∧ ok a) : ∀ l : List D, (∀ x ∈ l, Has t x) → ∃ k : List α, l = k.map enc ∧ ∀ a ∈ k, ok a
  | [], _ => ⟨[], rfl, by simp⟩
  | d :: l, hl => by
    obtain ⟨a, rfl, ha⟩ := h d (hl d (by simp))
    obtain ⟨k, rfl, hk⟩ := all_enc h l (fun x hx => hl x (by simp [hx]))
    exact ⟨a :: k, rfl, by simp only [List.mem_cons, forall_eq_or_imp]; exact ⟨ha, hk⟩⟩
theorem list_enc {α : Type} {t : Ty} {enc : α → D} {ok : α → Prop} (h : ∀ d, Has t d → ∃ a, d = enc a ∧ ok a) {d : D} (hd : Has (.list t) d) : ∃ k : List α, d = encL enc k ∧ lenOk t k.length ∧ ∀ a ∈ k, ok a := by
  obtain ⟨l, rfl, hl, hx⟩ := has_list.1 hd
  obtain ⟨k, rfl, hk⟩ := all_enc h l hx
  exact ⟨k, rfl, by simpa using hl, hk⟩
theorem int_enc {d : D} (h : Has (.int .i64) d) : ∃ n : Int, d = .int .i64 n ∧ in64 n := has_int.1 h
def ints (l : List Int) : D := encL (D.int .i64) l
theorem ints_enc {d : D} (h : Has (.list (.int .i64)) d) : ∃ k : List Int, d = ints k ∧ lenOk (.int .i64) k.length ∧ ∀ a ∈ k, in64 a := list_enc (fun _ => int_enc) h
theorem ints_dec (l : List Int) : (l.map (D.int .i64)).map D.toI = l := by simp [List.map_map, Function.comp_def, D.toI]
def decL {α : Type} (dec : D → α) (d : D) : List α := d.toL.map dec
theorem decL_encL {α : Type} {dec : D → α} {enc : α → D} (h : ∀ a, dec (enc a) = a) (l : List α) : decL dec (encL enc l) = l := by
  simp only [decL, encL, toL_list, List.map_map]
  exact (List.map_congr_left fun a _ => h a).trans (List.map_id l)
theorem decI (l : List Int) : decL D.toI (ints l) = l := decL_encL (fun _ => rfl) l

def resT : Ty := .agg (.cons (.int .i64) (.cons (.int .i64) (.nil)))
def grpT : Ty := .agg (.cons (.int .i64) (.cons (.int .i64) (.cons (.int .i64) (.nil))))
def jobT : Ty := .agg (.cons (.int .i64) (.cons (.int .i64) (.cons (.int .i64) (.cons (.int .i64) (.cons (.list grpT) (.cons (.int .i64) (.cons (.bool) (.nil))))))))
def nodeT : Ty := .agg (.cons (.int .i64) (.cons (.int .i64) (.cons (.int .i64) (.cons (.bool) (.cons (.bool) (.cons (.int .i64) (.cons (.int .i64) (.cons (.int .i64) (.nil)))))))))
def allocT : Ty := .agg (.cons (.int .i64) (.cons (.int .i64) (.cons (.int .i64) (.cons (.int .i64) (.cons (.int .i64) (.cons (.int .i64) (.cons (.int .i64) (.cons (.int .i64) (.cons (.int .i64) (.cons (.bool) (.cons (.int .i64) (.nil))))))))))))
def evalT : Ty := .agg (.cons (.int .i64) (.cons (.int .i64) (.cons (.int .i64) (.cons (.int .i64) (.nil)))))
def seenT : Ty := .agg (.cons (.int .i64) (.cons (.int .i64) (.cons (.int .i64) (.cons (.int .i64) (.cons (.list allocT) (.nil))))))
def storeT : Ty := .agg (.cons (.int .i64) (.cons (.int .i64) (.cons (.list jobT) (.cons (.list jobT) (.cons (.list nodeT) (.cons (.list allocT) (.cons (.list evalT) (.cons (.list evalT) (.cons (.list seenT) (.nil))))))))))

structure ARes where
  CPU : Int
  Mem : Int
  deriving DecidableEq, Inhabited
def ARes.enc (a : ARes) : D := .agg [.int .i64 a.CPU, .int .i64 a.Mem]
def ARes.dec (d : D) : ARes := ⟨I d 0, I d 1⟩
structure ARes.Ok (a : ARes) : Prop where
  CPU : in64 a.CPU
  Mem : in64 a.Mem
theorem ARes.dec_enc (a : ARes) : ARes.dec a.enc = a := rfl
theorem ARes.cases {d : D} (h : Has resT d) : ∃ a : ARes, d = a.enc ∧ a.Ok := by
  obtain ⟨_, rfl, _, _, rfl, ⟨x0, rfl, h0⟩, _, _, rfl, ⟨x1, rfl, h1⟩, rfl⟩ := h
  exact ⟨⟨x0, x1⟩, rfl, ⟨h0, h1⟩⟩
theorem ARes.cases_l {d : D} (h : Has (.list resT) d) : ∃ l : List ARes, d = encL ARes.enc l ∧ lenOk resT l.length ∧ ∀ a ∈ l, a.Ok := list_enc (fun _ => ARes.cases) h
theorem ARes.decl (l : List ARes) : decL ARes.dec (encL ARes.enc l) = l := decL_encL ARes.dec_enc l
theorem ARes.c0 (a : ARes) : a.enc.toL[0]? = some (.int .i64 a.CPU) := rfl
theorem ARes.c1 (a : ARes) : a.enc.toL[1]? = some (.int .i64 a.Mem) := rfl
theorem ARes.toL (a : ARes) : a.enc.toL = [.int .i64 a.CPU, .int .i64 a.Mem] := rfl
theorem ARes.fold (a : ARes) : D.agg [.int .i64 a.CPU, .int .i64 a.Mem] = a.enc := rfl

structure AGrp where
  Count : Int
  CPU : Int
  Mem : Int
  deriving DecidableEq, Inhabited
def AGrp.enc (a : AGrp) : D := .agg [.int .i64 a.Count, .int .i64 a.CPU, .int .i64 a.Mem]
def AGrp.dec (d : D) : AGrp := ⟨I d 0, I d 1, I d 2⟩
structure AGrp.Ok (a : AGrp) : Prop where
  Count : in64 a.Count
  CPU : in64 a.CPU
  Mem : in64 a.Mem
theorem AGrp.dec_enc (a : AGrp) : AGrp.dec a.enc = a := rfl
theorem AGrp.cases {d : D} (h : Has grpT d) : ∃ a : AGrp, d = a.enc ∧ a.Ok := by
  obtain ⟨_, rfl, _, _, rfl, ⟨x0, rfl, h0⟩, _, _, rfl, ⟨x1, rfl, h1⟩, _, _, rfl, ⟨x2, rfl, h2⟩, rfl⟩ := h
  exact ⟨⟨x0, x1, x2⟩, rfl, ⟨h0, h1, h2⟩⟩
theorem AGrp.cases_l {d : D} (h : Has (.list grpT) d) : ∃ l : List AGrp, d = encL AGrp.enc l ∧ lenOk grpT l.length ∧ ∀ a ∈ l, a.Ok := list_enc (fun _ => AGrp.cases) h
theorem AGrp.decl (l : List AGrp) : decL AGrp.dec (encL AGrp.enc l) = l := decL_encL AGrp.dec_enc l
theorem AGrp.c0 (a : AGrp) : a.enc.toL[0]? = some (.int .i64 a.Count) := rfl
theorem AGrp.c1 (a : AGrp) : a.enc.toL[1]? = some (.int .i64 a.CPU) := rfl
theorem AGrp.c2 (a : AGrp) : a.enc.toL[2]? = some (.int .i64 a.Mem) := rfl
theorem AGrp.toL (a : AGrp) : a.enc.toL = [.int .i64 a.Count, .int .i64 a.CPU, .int .i64 a.Mem] := rfl
theorem AGrp.fold (a : AGrp) : D.agg [.int .i64 a.Count, .int .i64 a.CPU, .int .i64 a.Mem] = a.enc := rfl

structure AJob where
  ID : Int
  Kind : Int
  Priority : Int
  Parallel : Int
  Groups : List AGrp
  Version : Int
  Stopped : Bool
  deriving DecidableEq, Inhabited
def AJob.enc (a : AJob) : D := .agg [.int .i64 a.ID, .int .i64 a.Kind, .int .i64 a.Priority, .int .i64 a.Parallel, encL AGrp.enc a.Groups, .int .i64 a.Version, .bool a.Stopped]
def AJob.dec (d : D) : AJob := ⟨I d 0, I d 1, I d 2, I d 3, decL AGrp.dec (d.toL.getD 4 .top), I d 5, B1 d 6⟩
structure AJob.Ok (a : AJob) : Prop where
  ID : in64 a.ID
  Kind : in64 a.Kind
  Priority : in64 a.Priority
  Parallel : in64 a.Parallel
  Groups : lenOk grpT a.Groups.length ∧ ∀ x ∈ a.Groups, x.Ok
  Version : in64 a.Version
  Stopped : True
theorem AJob.dec_enc (a : AJob) : AJob.dec a.enc = a := by
  simp only [AJob.dec, AJob.enc, I, B1, toL_agg, List.getD_cons_zero, List.getD_cons_succ, toI_int, toB_bool, decL_encL AGrp.dec_enc]
theorem AJob.cases {d : D} (h : Has jobT d) : ∃ a : AJob, d = a.enc ∧ a.Ok := by
  obtain ⟨_, rfl, _, _, rfl, ⟨x0, rfl, h0⟩, _, _, rfl, ⟨x1, rfl, h1⟩, _, _, rfl, ⟨x2, rfl, h2⟩, _, _, rfl, ⟨x3, rfl, h3⟩, d4, _, rfl, h4, _, _, rfl, ⟨x5, rfl, h5⟩, _, _, rfl, ⟨x6, rfl⟩, rfl⟩ := h
  obtain ⟨x4, rfl, g4⟩ := AGrp.cases_l h4
  exact ⟨⟨x0, x1, x2, x3, x4, x5, x6⟩, rfl, ⟨h0, h1, h2, h3, g4, h5, trivial⟩⟩
theorem AJob.cases_l {d : D} (h : Has (.list jobT) d) : ∃ l : List AJob, d = encL AJob.enc l ∧ lenOk jobT l.length ∧ ∀ a ∈ l, a.Ok := list_enc (fun _ => AJob.cases) h
theorem AJob.decl (l : List AJob) : decL AJob.dec (encL AJob.enc l) = l := decL_encL AJob.dec_enc l
theorem AJob.c0 (a : AJob) : a.enc.toL[0]? = some (.int .i64 a.ID) := rfl
theorem AJob.c1 (a : AJob) : a.enc.toL[1]? = some (.int .i64 a.Kind) := rfl
theorem AJob.c2 (a : AJob) : a.enc.toL[2]? = some (.int .i64 a.Priority) := rfl
theorem AJob.c3 (a : AJob) : a.enc.toL[3]? = some (.int .i64 a.Parallel) := rfl
theorem AJob.c4 (a : AJob) : a.enc.toL[4]? = some (encL AGrp.enc a.Groups) := rfl
theorem AJob.c5 (a : AJob) : a.enc.toL[5]? = some (.int .i64 a.Version) := rfl
theorem AJob.c6 (a : AJob) : a.enc.toL[6]? = some (.bool a.Stopped) := rfl
theorem AJob.toL (a : AJob) : a.enc.toL = [.int .i64 a.ID, .int .i64 a.Kind, .int .i64 a.Priority, .int .i64 a.Parallel, encL AGrp.enc a.Groups, .int .i64 a.Version, .bool a.Stopped] := rfl
theorem AJob.fold (a : AJob) : D.agg [.int .i64 a.ID, .int .i64 a.Kind, .int .i64 a.Priority, .int .i64 a.Parallel, encL AGrp.enc a.Groups, .int .i64 a.Version, .bool a.Stopped] = a.enc := rfl

structure ANode where
  ID : Int
  CPU : Int
  Mem : Int
  Up : Bool
  Drain : Bool
  Boot : Int
  Epoch : Int
  Seq : Int
  deriving DecidableEq, Inhabited
def ANode.enc (a : ANode) : D := .agg [.int .i64 a.ID, .int .i64 a.CPU, .int .i64 a.Mem, .bool a.Up, .bool a.Drain, .int .i64 a.Boot, .int .i64 a.Epoch, .int .i64 a.Seq]
def ANode.dec (d : D) : ANode := ⟨I d 0, I d 1, I d 2, B1 d 3, B1 d 4, I d 5, I d 6, I d 7⟩
structure ANode.Ok (a : ANode) : Prop where
  ID : in64 a.ID
  CPU : in64 a.CPU
  Mem : in64 a.Mem
  Up : True
  Drain : True
  Boot : in64 a.Boot
  Epoch : in64 a.Epoch
  Seq : in64 a.Seq
theorem ANode.dec_enc (a : ANode) : ANode.dec a.enc = a := rfl
theorem ANode.cases {d : D} (h : Has nodeT d) : ∃ a : ANode, d = a.enc ∧ a.Ok := by
  obtain ⟨_, rfl, _, _, rfl, ⟨x0, rfl, h0⟩, _, _, rfl, ⟨x1, rfl, h1⟩, _, _, rfl, ⟨x2, rfl, h2⟩, _, _, rfl, ⟨x3, rfl⟩, _, _, rfl, ⟨x4, rfl⟩, _, _, rfl, ⟨x5, rfl, h5⟩, _, _, rfl, ⟨x6, rfl, h6⟩, _, _, rfl, ⟨x7, rfl, h7⟩, rfl⟩ := h
  exact ⟨⟨x0, x1, x2, x3, x4, x5, x6, x7⟩, rfl, ⟨h0, h1, h2, trivial, trivial, h5, h6, h7⟩⟩
theorem ANode.cases_l {d : D} (h : Has (.list nodeT) d) : ∃ l : List ANode, d = encL ANode.enc l ∧ lenOk nodeT l.length ∧ ∀ a ∈ l, a.Ok := list_enc (fun _ => ANode.cases) h
theorem ANode.decl (l : List ANode) : decL ANode.dec (encL ANode.enc l) = l := decL_encL ANode.dec_enc l
theorem ANode.c0 (a : ANode) : a.enc.toL[0]? = some (.int .i64 a.ID) := rfl
theorem ANode.c1 (a : ANode) : a.enc.toL[1]? = some (.int .i64 a.CPU) := rfl
theorem ANode.c2 (a : ANode) : a.enc.toL[2]? = some (.int .i64 a.Mem) := rfl
theorem ANode.c3 (a : ANode) : a.enc.toL[3]? = some (.bool a.Up) := rfl
theorem ANode.c4 (a : ANode) : a.enc.toL[4]? = some (.bool a.Drain) := rfl
theorem ANode.c5 (a : ANode) : a.enc.toL[5]? = some (.int .i64 a.Boot) := rfl
theorem ANode.c6 (a : ANode) : a.enc.toL[6]? = some (.int .i64 a.Epoch) := rfl
theorem ANode.c7 (a : ANode) : a.enc.toL[7]? = some (.int .i64 a.Seq) := rfl
theorem ANode.toL (a : ANode) : a.enc.toL = [.int .i64 a.ID, .int .i64 a.CPU, .int .i64 a.Mem, .bool a.Up, .bool a.Drain, .int .i64 a.Boot, .int .i64 a.Epoch, .int .i64 a.Seq] := rfl
theorem ANode.fold (a : ANode) : D.agg [.int .i64 a.ID, .int .i64 a.CPU, .int .i64 a.Mem, .bool a.Up, .bool a.Drain, .int .i64 a.Boot, .int .i64 a.Epoch, .int .i64 a.Seq] = a.enc := rfl

structure AAlc where
  ID : Int
  Job : Int
  Version : Int
  Group : Int
  Index : Int
  Node : Int
  Epoch : Int
  CPU : Int
  Mem : Int
  Stop : Bool
  State : Int
  deriving DecidableEq, Inhabited
def AAlc.enc (a : AAlc) : D := .agg [.int .i64 a.ID, .int .i64 a.Job, .int .i64 a.Version, .int .i64 a.Group, .int .i64 a.Index, .int .i64 a.Node, .int .i64 a.Epoch, .int .i64 a.CPU, .int .i64 a.Mem, .bool a.Stop, .int .i64 a.State]
def AAlc.dec (d : D) : AAlc := ⟨I d 0, I d 1, I d 2, I d 3, I d 4, I d 5, I d 6, I d 7, I d 8, B1 d 9, I d 10⟩
structure AAlc.Ok (a : AAlc) : Prop where
  ID : in64 a.ID
  Job : in64 a.Job
  Version : in64 a.Version
  Group : in64 a.Group
  Index : in64 a.Index
  Node : in64 a.Node
  Epoch : in64 a.Epoch
  CPU : in64 a.CPU
  Mem : in64 a.Mem
  Stop : True
  State : in64 a.State
theorem AAlc.dec_enc (a : AAlc) : AAlc.dec a.enc = a := rfl
theorem AAlc.cases {d : D} (h : Has allocT d) : ∃ a : AAlc, d = a.enc ∧ a.Ok := by
  obtain ⟨_, rfl, _, _, rfl, ⟨x0, rfl, h0⟩, _, _, rfl, ⟨x1, rfl, h1⟩, _, _, rfl, ⟨x2, rfl, h2⟩, _, _, rfl, ⟨x3, rfl, h3⟩, _, _, rfl, ⟨x4, rfl, h4⟩, _, _, rfl, ⟨x5, rfl, h5⟩, _, _, rfl, ⟨x6, rfl, h6⟩, _, _, rfl, ⟨x7, rfl, h7⟩, _, _, rfl, ⟨x8, rfl, h8⟩, _, _, rfl, ⟨x9, rfl⟩, _, _, rfl, ⟨x10, rfl, h10⟩, rfl⟩ := h
  exact ⟨⟨x0, x1, x2, x3, x4, x5, x6, x7, x8, x9, x10⟩, rfl, ⟨h0, h1, h2, h3, h4, h5, h6, h7, h8, trivial, h10⟩⟩
theorem AAlc.cases_l {d : D} (h : Has (.list allocT) d) : ∃ l : List AAlc, d = encL AAlc.enc l ∧ lenOk allocT l.length ∧ ∀ a ∈ l, a.Ok := list_enc (fun _ => AAlc.cases) h
theorem AAlc.decl (l : List AAlc) : decL AAlc.dec (encL AAlc.enc l) = l := decL_encL AAlc.dec_enc l
theorem AAlc.c0 (a : AAlc) : a.enc.toL[0]? = some (.int .i64 a.ID) := rfl
theorem AAlc.c1 (a : AAlc) : a.enc.toL[1]? = some (.int .i64 a.Job) := rfl
theorem AAlc.c2 (a : AAlc) : a.enc.toL[2]? = some (.int .i64 a.Version) := rfl
theorem AAlc.c3 (a : AAlc) : a.enc.toL[3]? = some (.int .i64 a.Group) := rfl
theorem AAlc.c4 (a : AAlc) : a.enc.toL[4]? = some (.int .i64 a.Index) := rfl
theorem AAlc.c5 (a : AAlc) : a.enc.toL[5]? = some (.int .i64 a.Node) := rfl
theorem AAlc.c6 (a : AAlc) : a.enc.toL[6]? = some (.int .i64 a.Epoch) := rfl
theorem AAlc.c7 (a : AAlc) : a.enc.toL[7]? = some (.int .i64 a.CPU) := rfl
theorem AAlc.c8 (a : AAlc) : a.enc.toL[8]? = some (.int .i64 a.Mem) := rfl
theorem AAlc.c9 (a : AAlc) : a.enc.toL[9]? = some (.bool a.Stop) := rfl
theorem AAlc.c10 (a : AAlc) : a.enc.toL[10]? = some (.int .i64 a.State) := rfl
theorem AAlc.toL (a : AAlc) : a.enc.toL = [.int .i64 a.ID, .int .i64 a.Job, .int .i64 a.Version, .int .i64 a.Group, .int .i64 a.Index, .int .i64 a.Node, .int .i64 a.Epoch, .int .i64 a.CPU, .int .i64 a.Mem, .bool a.Stop, .int .i64 a.State] := rfl
theorem AAlc.fold (a : AAlc) : D.agg [.int .i64 a.ID, .int .i64 a.Job, .int .i64 a.Version, .int .i64 a.Group, .int .i64 a.Index, .int .i64 a.Node, .int .i64 a.Epoch, .int .i64 a.CPU, .int .i64 a.Mem, .bool a.Stop, .int .i64 a.State] = a.enc := rfl

structure AEvl where
  Job : Int
  Priority : Int
  State : Int
  Index : Int
  deriving DecidableEq, Inhabited
def AEvl.enc (a : AEvl) : D := .agg [.int .i64 a.Job, .int .i64 a.Priority, .int .i64 a.State, .int .i64 a.Index]
def AEvl.dec (d : D) : AEvl := ⟨I d 0, I d 1, I d 2, I d 3⟩
structure AEvl.Ok (a : AEvl) : Prop where
  Job : in64 a.Job
  Priority : in64 a.Priority
  State : in64 a.State
  Index : in64 a.Index
theorem AEvl.dec_enc (a : AEvl) : AEvl.dec a.enc = a := rfl
theorem AEvl.cases {d : D} (h : Has evalT d) : ∃ a : AEvl, d = a.enc ∧ a.Ok := by
  obtain ⟨_, rfl, _, _, rfl, ⟨x0, rfl, h0⟩, _, _, rfl, ⟨x1, rfl, h1⟩, _, _, rfl, ⟨x2, rfl, h2⟩, _, _, rfl, ⟨x3, rfl, h3⟩, rfl⟩ := h
  exact ⟨⟨x0, x1, x2, x3⟩, rfl, ⟨h0, h1, h2, h3⟩⟩
theorem AEvl.cases_l {d : D} (h : Has (.list evalT) d) : ∃ l : List AEvl, d = encL AEvl.enc l ∧ lenOk evalT l.length ∧ ∀ a ∈ l, a.Ok := list_enc (fun _ => AEvl.cases) h
theorem AEvl.decl (l : List AEvl) : decL AEvl.dec (encL AEvl.enc l) = l := decL_encL AEvl.dec_enc l
theorem AEvl.c0 (a : AEvl) : a.enc.toL[0]? = some (.int .i64 a.Job) := rfl
theorem AEvl.c1 (a : AEvl) : a.enc.toL[1]? = some (.int .i64 a.Priority) := rfl
theorem AEvl.c2 (a : AEvl) : a.enc.toL[2]? = some (.int .i64 a.State) := rfl
theorem AEvl.c3 (a : AEvl) : a.enc.toL[3]? = some (.int .i64 a.Index) := rfl
theorem AEvl.toL (a : AEvl) : a.enc.toL = [.int .i64 a.Job, .int .i64 a.Priority, .int .i64 a.State, .int .i64 a.Index] := rfl
theorem AEvl.fold (a : AEvl) : D.agg [.int .i64 a.Job, .int .i64 a.Priority, .int .i64 a.State, .int .i64 a.Index] = a.enc := rfl

structure ASeen where
  Client : Int
  Req : Int
  Code : Int
  Value : Int
  Allocs : List AAlc
  deriving DecidableEq, Inhabited
def ASeen.enc (a : ASeen) : D := .agg [.int .i64 a.Client, .int .i64 a.Req, .int .i64 a.Code, .int .i64 a.Value, encL AAlc.enc a.Allocs]
def ASeen.dec (d : D) : ASeen := ⟨I d 0, I d 1, I d 2, I d 3, decL AAlc.dec (d.toL.getD 4 .top)⟩
structure ASeen.Ok (a : ASeen) : Prop where
  Client : in64 a.Client
  Req : in64 a.Req
  Code : in64 a.Code
  Value : in64 a.Value
  Allocs : lenOk allocT a.Allocs.length ∧ ∀ x ∈ a.Allocs, x.Ok
theorem ASeen.dec_enc (a : ASeen) : ASeen.dec a.enc = a := by
  simp only [ASeen.dec, ASeen.enc, I, B1, toL_agg, List.getD_cons_zero, List.getD_cons_succ, toI_int, toB_bool, decL_encL AAlc.dec_enc]
theorem ASeen.cases {d : D} (h : Has seenT d) : ∃ a : ASeen, d = a.enc ∧ a.Ok := by
  obtain ⟨_, rfl, _, _, rfl, ⟨x0, rfl, h0⟩, _, _, rfl, ⟨x1, rfl, h1⟩, _, _, rfl, ⟨x2, rfl, h2⟩, _, _, rfl, ⟨x3, rfl, h3⟩, d4, _, rfl, h4, rfl⟩ := h
  obtain ⟨x4, rfl, g4⟩ := AAlc.cases_l h4
  exact ⟨⟨x0, x1, x2, x3, x4⟩, rfl, ⟨h0, h1, h2, h3, g4⟩⟩
theorem ASeen.cases_l {d : D} (h : Has (.list seenT) d) : ∃ l : List ASeen, d = encL ASeen.enc l ∧ lenOk seenT l.length ∧ ∀ a ∈ l, a.Ok := list_enc (fun _ => ASeen.cases) h
theorem ASeen.decl (l : List ASeen) : decL ASeen.dec (encL ASeen.enc l) = l := decL_encL ASeen.dec_enc l
theorem ASeen.c0 (a : ASeen) : a.enc.toL[0]? = some (.int .i64 a.Client) := rfl
theorem ASeen.c1 (a : ASeen) : a.enc.toL[1]? = some (.int .i64 a.Req) := rfl
theorem ASeen.c2 (a : ASeen) : a.enc.toL[2]? = some (.int .i64 a.Code) := rfl
theorem ASeen.c3 (a : ASeen) : a.enc.toL[3]? = some (.int .i64 a.Value) := rfl
theorem ASeen.c4 (a : ASeen) : a.enc.toL[4]? = some (encL AAlc.enc a.Allocs) := rfl
theorem ASeen.toL (a : ASeen) : a.enc.toL = [.int .i64 a.Client, .int .i64 a.Req, .int .i64 a.Code, .int .i64 a.Value, encL AAlc.enc a.Allocs] := rfl
theorem ASeen.fold (a : ASeen) : D.agg [.int .i64 a.Client, .int .i64 a.Req, .int .i64 a.Code, .int .i64 a.Value, encL AAlc.enc a.Allocs] = a.enc := rfl

structure AStore where
  Index : Int
  Next : Int
  Jobs : List AJob
  Stable : List AJob
  Nodes : List ANode
  Allocs : List AAlc
  Evals : List AEvl
  Deploys : List AEvl
  Seen : List ASeen
  deriving DecidableEq, Inhabited
def AStore.enc (a : AStore) : D := .agg [.int .i64 a.Index, .int .i64 a.Next, encL AJob.enc a.Jobs, encL AJob.enc a.Stable, encL ANode.enc a.Nodes, encL AAlc.enc a.Allocs, encL AEvl.enc a.Evals, encL AEvl.enc a.Deploys, encL ASeen.enc a.Seen]
def AStore.dec (d : D) : AStore := ⟨I d 0, I d 1, decL AJob.dec (d.toL.getD 2 .top), decL AJob.dec (d.toL.getD 3 .top), decL ANode.dec (d.toL.getD 4 .top), decL AAlc.dec (d.toL.getD 5 .top), decL AEvl.dec (d.toL.getD 6 .top), decL AEvl.dec (d.toL.getD 7 .top), decL ASeen.dec (d.toL.getD 8 .top)⟩
structure AStore.Ok (a : AStore) : Prop where
  Index : in64 a.Index
  Next : in64 a.Next
  Jobs : lenOk jobT a.Jobs.length ∧ ∀ x ∈ a.Jobs, x.Ok
  Stable : lenOk jobT a.Stable.length ∧ ∀ x ∈ a.Stable, x.Ok
  Nodes : lenOk nodeT a.Nodes.length ∧ ∀ x ∈ a.Nodes, x.Ok
  Allocs : lenOk allocT a.Allocs.length ∧ ∀ x ∈ a.Allocs, x.Ok
  Evals : lenOk evalT a.Evals.length ∧ ∀ x ∈ a.Evals, x.Ok
  Deploys : lenOk evalT a.Deploys.length ∧ ∀ x ∈ a.Deploys, x.Ok
  Seen : lenOk seenT a.Seen.length ∧ ∀ x ∈ a.Seen, x.Ok
theorem AStore.dec_enc (a : AStore) : AStore.dec a.enc = a := by
  simp only [AStore.dec, AStore.enc, I, B1, toL_agg, List.getD_cons_zero, List.getD_cons_succ, toI_int, toB_bool, decL_encL AAlc.dec_enc, decL_encL AEvl.dec_enc, decL_encL AJob.dec_enc, decL_encL ANode.dec_enc, decL_encL ASeen.dec_enc]
theorem AStore.cases {d : D} (h : Has storeT d) : ∃ a : AStore, d = a.enc ∧ a.Ok := by
  obtain ⟨_, rfl, _, _, rfl, ⟨x0, rfl, h0⟩, _, _, rfl, ⟨x1, rfl, h1⟩, d2, _, rfl, h2, d3, _, rfl, h3, d4, _, rfl, h4, d5, _, rfl, h5, d6, _, rfl, h6, d7, _, rfl, h7, d8, _, rfl, h8, rfl⟩ := h
  obtain ⟨x2, rfl, g2⟩ := AJob.cases_l h2
  obtain ⟨x3, rfl, g3⟩ := AJob.cases_l h3
  obtain ⟨x4, rfl, g4⟩ := ANode.cases_l h4
  obtain ⟨x5, rfl, g5⟩ := AAlc.cases_l h5
  obtain ⟨x6, rfl, g6⟩ := AEvl.cases_l h6
  obtain ⟨x7, rfl, g7⟩ := AEvl.cases_l h7
  obtain ⟨x8, rfl, g8⟩ := ASeen.cases_l h8
  exact ⟨⟨x0, x1, x2, x3, x4, x5, x6, x7, x8⟩, rfl, ⟨h0, h1, g2, g3, g4, g5, g6, g7, g8⟩⟩
theorem AStore.cases_l {d : D} (h : Has (.list storeT) d) : ∃ l : List AStore, d = encL AStore.enc l ∧ lenOk storeT l.length ∧ ∀ a ∈ l, a.Ok := list_enc (fun _ => AStore.cases) h
theorem AStore.decl (l : List AStore) : decL AStore.dec (encL AStore.enc l) = l := decL_encL AStore.dec_enc l
theorem AStore.c0 (a : AStore) : a.enc.toL[0]? = some (.int .i64 a.Index) := rfl
theorem AStore.c1 (a : AStore) : a.enc.toL[1]? = some (.int .i64 a.Next) := rfl
theorem AStore.c2 (a : AStore) : a.enc.toL[2]? = some (encL AJob.enc a.Jobs) := rfl
theorem AStore.c3 (a : AStore) : a.enc.toL[3]? = some (encL AJob.enc a.Stable) := rfl
theorem AStore.c4 (a : AStore) : a.enc.toL[4]? = some (encL ANode.enc a.Nodes) := rfl
theorem AStore.c5 (a : AStore) : a.enc.toL[5]? = some (encL AAlc.enc a.Allocs) := rfl
theorem AStore.c6 (a : AStore) : a.enc.toL[6]? = some (encL AEvl.enc a.Evals) := rfl
theorem AStore.c7 (a : AStore) : a.enc.toL[7]? = some (encL AEvl.enc a.Deploys) := rfl
theorem AStore.c8 (a : AStore) : a.enc.toL[8]? = some (encL ASeen.enc a.Seen) := rfl
theorem AStore.toL (a : AStore) : a.enc.toL = [.int .i64 a.Index, .int .i64 a.Next, encL AJob.enc a.Jobs, encL AJob.enc a.Stable, encL ANode.enc a.Nodes, encL AAlc.enc a.Allocs, encL AEvl.enc a.Evals, encL AEvl.enc a.Deploys, encL ASeen.enc a.Seen] := rfl
theorem AStore.fold (a : AStore) : D.agg [.int .i64 a.Index, .int .i64 a.Next, encL AJob.enc a.Jobs, encL AJob.enc a.Stable, encL ANode.enc a.Nodes, encL AAlc.enc a.Allocs, encL AEvl.enc a.Evals, encL AEvl.enc a.Deploys, encL ASeen.enc a.Seen] = a.enc := rfl

theorem drop_some {α : Type} {l : List α} {i : Nat} {x : α} (h : l[i]? = some x) : l.drop i = x :: l.drop (i + 1) := by
  obtain ⟨hi, rfl⟩ := List.getElem?_eq_some_iff.1 h
  exact List.drop_eq_getElem_cons hi
theorem lt_some {α : Type} {l : List α} {i : Nat} {x : α} (h : l[i]? = some x) : i < l.length := (List.getElem?_eq_some_iff.1 h).1
theorem ge_none {α : Type} {l : List α} {i : Nat} (h : l[i]? = none) : l.length ≤ i := List.getElem?_eq_none_iff.1 h
theorem drop_none {α : Type} {l : List α} {i : Nat} (h : l[i]? = none) : l.drop i = [] := List.drop_eq_nil_of_le (ge_none h)
theorem mem_some {α : Type} {l : List α} {i : Nat} {x : α} (h : l[i]? = some x) : x ∈ l := List.mem_of_getElem? h
/-- The place of the first that is such, from a number on; -1: there is none. -/
def findF {α : Type} (p : α → Bool) : List α → Int → Int
  | [], _ => -1
  | x :: r, i => if p x then i else findF p r (i + 1)
theorem findF_cases {α : Type} (p : α → Bool) : ∀ (l : List α) (i : Int), (findF p l i = -1 ∧ ∀ x ∈ l, p x = false) ∨ ∃ (n : Nat) (x : α), findF p l i = i + n ∧ l[n]? = some x ∧ p x = true ∧ ∀ y ∈ l.take n, p y = false
  | [], i => .inl ⟨rfl, by simp⟩
  | x :: r, i => by
    unfold findF
    cases hp : p x with
    | true => exact .inr ⟨0, x, by simp, rfl, hp, by simp⟩
    | false =>
      rcases findF_cases p r (i + 1) with ⟨h1, h2⟩ | ⟨n, y, h1, h2, h3, h4⟩
      · exact .inl ⟨by simpa using h1, by simp only [List.mem_cons, forall_eq_or_imp]; exact ⟨hp, h2⟩⟩
      · exact .inr ⟨n + 1, y, by simp [h1]; omega, by simpa using h2, h3, by simp only [List.take_succ_cons, List.mem_cons, forall_eq_or_imp]; exact ⟨hp, h4⟩⟩
/-- The first cells of a list of data. -/
theorem I0 (n : Int) (k : IntKind) (r : List D) : I (.list (.int k n :: r)) 0 = n := rfl
theorem nat_of {i : Int} (h : 0 ≤ i) : ∃ n : Nat, i = n := Int.eq_ofNat_of_zero_le h
end Go.Eng
/- A law: its contract says 'true'; hence its statement. -/
namespace Go.Eng
open Go Go.RowKit Go.ChangeShapes Go.WideShapes

def argTys (P : Program) (n : Nat) : List TypeId → Option (List Ty)
  | [] => some []
  | t :: ts => match argTy P n t, argTys P n ts with
    | some x, some xs => some (x :: xs)
    | _, _ => none

section
variable {K : Nat} {w : World} {S : Foot} {H : Type} {enc : TypeId × Value → H} {P : Program} {base b0 : Nat} {spare : Nat → Bool} {held : Bool} {r : Reach}

theorem okWide_cells {T : TypeId} {v : Value} (hok : Value.okWide P w r b0 T v) (ha : aggT P T = false) : v.cells.toList = [v] := by
  have : ∀ cs, v ≠ .agg cs := by
    rintro cs rfl
    unfold Value.okWide at hok
    unfold aggT at ha
    split at hok
    · simp_all
    · simp_all
    · unfold Cell.okWide at hok
      split at hok <;> simp_all [Cell.ok]
  cases v <;> first | rfl | exact absurd rfl (this _)

theorem okWide_agg {T : TypeId} {v : Value} (hok : Value.okWide P w r b0 T v) (ha : aggT P T = true) : ∃ cs : List Value, v = .agg cs.toArray := by
  unfold Value.okWide at hok
  unfold aggT at ha
  split at hok
  · obtain ⟨cs, rfl, _⟩ := hok; exact ⟨cs.toList, rfl⟩
  · obtain ⟨cs, rfl, _⟩ := hok; exact ⟨cs.toList, rfl⟩
  · simp_all

theorem arg_rep {n : Nat} {T : TypeId} {v : Value} {d : DataW H} {ps : List MemPlace} {ty : Ty} (hok : Value.okWide P w r b0 T v) (hd : DataW.Trod enc P w base spare held T v d ps) (hty : argTy P n T = some ty)
    (hS : ∀ b o, MemPlace.cell b o ∈ ps → S b o) (hwt : ∀ z ∈ d.weights P T, z ≤ K) : ∃ x : D, Rep w S v x ∧ HasK K ty x ∧ x.wt ≤ dwt d := by
  unfold argTy at hty
  rw [Option.bind_eq_some_iff] at hty
  obtain ⟨ts, hts, he⟩ := hty
  obtain ⟨m, hm⟩ := hd
  obtain ⟨ds, hr, hk⟩ := trod_rep n m T _ _ ts hts hm hS hwt
  obtain ⟨x, hx, _, h1, h2, h3⟩ := elem_of he hr
  refine ⟨x, ?_, hx, by rw [h3]; exact hk⟩
  cases ha : aggT P T with
  | true =>
    obtain ⟨cs, rfl⟩ := okWide_agg hok ha
    rw [h1 ha]
    have hr' : R3 K w S cs ds ts := hr
    exact .agg cs ds (by rw [hr'.len.1, hr'.len.2]) hr'.get
  | false =>
    rw [okWide_cells hok ha, h2 ha] at hr
    exact hr.get 0 v x rfl rfl

theorem args_rep {n : Nat} : ∀ {ts : List TypeId} {vs : List Value} {ds : List (DataW H)} {ps : List MemPlace} {tys : List Ty}, (∀ (j : Nat) t v, ts[j]? = some t → vs[j]? = some v → Value.okWide P w r b0 t v) →
    DataW.TrodAll enc P w base spare held ts vs ds ps → argTys P n ts = some tys → (∀ b o, MemPlace.cell b o ∈ ps → S b o) → (∀ z ∈ DataW.weightsEach P ts ds, z ≤ K) → ∃ xs : List D, R3 K w S vs xs tys ∧ wtL xs ≤ dwtL ds
  | [], [], [], ps, tys, _, _, ht, _, _ => by
    simp only [argTys, Option.some.injEq] at ht
    subst ht
    exact ⟨[], .nil, Nat.zero_le _⟩
  | t :: ts, v :: vs, d :: ds, ps, tys, hok, ⟨p, q, h1, h2, e⟩, ht, hS, hwt => by
    unfold DataW.weightsEach at hwt
    simp only [argTys] at ht
    split at ht
    · rename_i x xs hx hxs
      injection ht with ht; subst ht
      obtain ⟨a, ha, hta, hka⟩ := arg_rep (hok 0 t v rfl rfl) h1 hx (fun b o hb => hS b o (by rw [e]; exact List.mem_append_left _ hb)) (fun z hz => hwt z (List.mem_append_left _ hz))
      obtain ⟨as, has, hks⟩ := args_rep (fun j t v h1 h2 => hok (j + 1) t v (by simpa using h1) (by simpa using h2)) h2 hxs (fun b o hb => hS b o (by rw [e]; exact List.mem_append_right _ hb)) (fun z hz => hwt z (List.mem_append_right _ hz))
      exact ⟨a :: as, .cons ha hta has, by simp only [wtL, dwtL]; omega⟩
    · cases ht
  | [], _ :: _, _, _, _, _, h, _, _, _ | [], [], _ :: _, _, _, _, h, _, _, _ | _ :: _, [], _, _, _, _, h, _, _, _ | _ :: _, _ :: _, [], _, _, _, h, _, _, _ => h.elim

theorem trodAll_below (hl : laidOutB P = true) {W W' : World} (hb : Below W.heap.size W W') : ∀ {ts : List TypeId} {vs : List Value} {ds : List (DataW H)} {ps : List MemPlace}, (ts.all fun t => P.readableRec t && decide (t < P.types.size)) = true →
    DataW.TrodAll enc P W 0 (fun _ => true) true ts vs ds ps → (∀ x ∈ ps, x.block < W.heap.size) → DataW.TrodAll enc P W' 0 (fun b => decide (b < W.heap.size)) true ts vs ds ps
  | [], [], [], _, _, h, _ => h
  | t :: ts, v :: vs, d :: ds, ps, hr, ⟨p, q, h1, h2, e⟩, hlt => by
    rw [List.all_cons, Bool.and_eq_true, Bool.and_eq_true, decide_eq_true_eq] at hr
    exact ⟨p, q, Below.trod hl hr.1.1 hr.1.2 h1 hb (fun x hx => hlt x (by rw [e]; exact List.mem_append_left _ hx)),
      trodAll_below hl hb hr.2 h2 (fun x hx => hlt x (by rw [e]; exact List.mem_append_right _ hx)), e⟩
  | [], _ :: _, _, _, _, h, _ | [], [], _ :: _, _, _, h, _ | _ :: _, [], _, _, _, h, _ | _ :: _, _ :: _, [], _, _, h, _ => h.elim

theorem law_calls_wt {f : Nat} {fn : Func} {sig : Sig} {s : ChangeSpec} {apart : Bool} {W : World} {args : Array Value} {ds gs : List (DataW H)} {before : List MemPlace} {tb : TypeId} {Pre : List D → Prop} {Φ : List D → D} (n : Nat)
    (hp : PureFn P f sig Pre Φ) (hl : laidOutB P = true) (hread : (fn.params.toList.all fun t => P.readableRec t && decide (t < P.types.size)) = true) (hty : argTys P n fn.params.toList = some sig.params)
    (hres : sig.res = [(false, [(.bool, none)])]) (hrt : fn.resultTypes = #[tb]) (htb : P.underlying tb = some .bool) (hvars : s.vars = [])
    (hfn : s.fn H ds = { results := [.lit (.bool true)], args := ds })
    (hval : ∀ (j : Nat) t v, fn.params[j]? = some t → args[j]? = some v → Value.okWide P W r b0 t v)
    (hW : DataW.Whole enc P fn.params.toList s.vars apart W args.toList ds gs before)
    (hwt : (DataW.weightsEach P (fn.params.toList ++ s.plain.varTypes P) (ds ++ gs)).all (· ≤ reachBytes) = true)
    (hpre : ∀ xs, HasLK reachBytes (.ofL sig.params) xs → wtL xs ≤ dwtL (ds ++ gs) → Pre xs ∧ Φ xs = .bool true) (hob : sig.ob = none := by rfl) :
    Calls P f args W fun e W' => ∃ v, e = .returned v ∧ s.post enc P fn apart true false false W args v W' := by
  have hlt := hW.lt
  have hW0 := hW
  obtain ⟨p, q, hA, hV, rfl, _, _⟩ := hW
  rw [hvars] at hV
  obtain ⟨rfl, rfl⟩ : gs = [] ∧ q = [] := by
    cases gs with
    | nil => exact ⟨rfl, hV⟩
    | cons a b => exact hV.elim
  have hvt : s.plain.varTypes P = [] := by simp [ChangeSpec.plain, DataSpec.varTypes, hvars]
  rw [hvt, List.append_nil, List.append_nil] at hwt
  have hwt' : ∀ z ∈ DataW.weightsEach P fn.params.toList ds, z ≤ reachBytes := fun z hz => by
    simpa using List.all_eq_true.1 hwt z hz
  have h8 : reachBytes ≤ 140737488355328 := by decide
  obtain ⟨xs, hr, hkk⟩ := args_rep (S := fun b o => MemPlace.cell b o ∈ p) (fun j t v h1 h2 => hval j t v (by simpa using h1) (by simpa using h2)) hA hty (fun _ _ h => h) hwt'
  obtain ⟨hp1, hp2⟩ := hpre xs hr.has (by rw [List.append_nil]; exact hkk)
  have hc := hp.calls hob W (fun b o => MemPlace.cell b o ∈ p) args.toList xs (fun b o hb => hlt (.cell b o) (List.mem_append_left _ hb)) (by rw [hr.len.1, hr.len.2]) hr.get ((hasP_mono h8 _).2 _ hr.has) hp1
  refine hc.mono fun e W' h => ?_
  obtain ⟨v, S', τ, rfl, hb, _, _, _, hro, _⟩ := h
  rw [hres] at hro
  rcases hro with ⟨x, hx, hco⟩ | ⟨hne, _⟩
  · simp only [List.cons.injEq, and_true] at hx
    subst hx
    obtain ⟨c, hc1, hc2⟩ := hco
    simp only [List.cons.injEq, and_true] at hc1
    subst hc1
    obtain ⟨hc2, _⟩ := hc2
    rw [hp2] at hc2
    have hv := hc2.inv_bool
    subst hv
    have hdg : (s.fn H (ds ++ [])) = { results := [.lit (.bool true)], args := ds } := by rw [List.append_nil, hfn]
    refine ⟨_, rfl, ds, [], _, [], p, [], hW0, ?_, ?_, ?_, hb.frame _, fun h => by cases h⟩
    · rw [hdg, hrt]
      exact ⟨[], [], ⟨1, by simp [DataW.trod, Value.cells, htb]⟩, rfl, rfl⟩
    · rw [hdg]
      exact trodAll_below hl hb hread hA (fun x hx => hlt x (List.mem_append_left _ hx))
    · rw [hdg, hvars]; rfl
  · exact absurd rfl hne
theorem law_calls {f : Nat} {fn : Func} {sig : Sig} {s : ChangeSpec} {apart : Bool} {W : World} {args : Array Value} {ds gs : List (DataW H)} {before : List MemPlace} {tb : TypeId} {Pre : List D → Prop} {Φ : List D → D} (n : Nat)
    (hp : PureFn P f sig Pre Φ) (hl : laidOutB P = true) (hread : (fn.params.toList.all fun t => P.readableRec t && decide (t < P.types.size)) = true) (hty : argTys P n fn.params.toList = some sig.params)
    (hres : sig.res = [(false, [(.bool, none)])]) (hrt : fn.resultTypes = #[tb]) (htb : P.underlying tb = some .bool) (hvars : s.vars = [])
    (hfn : s.fn H ds = { results := [.lit (.bool true)], args := ds })
    (hval : ∀ (j : Nat) t v, fn.params[j]? = some t → args[j]? = some v → Value.okWide P W r b0 t v)
    (hW : DataW.Whole enc P fn.params.toList s.vars apart W args.toList ds gs before)
    (hwt : (DataW.weightsEach P (fn.params.toList ++ s.plain.varTypes P) (ds ++ gs)).all (· ≤ reachBytes) = true)
    (hpre : ∀ xs, HasLK reachBytes (.ofL sig.params) xs → Pre xs ∧ Φ xs = .bool true) (hob : sig.ob = none := by rfl) :
    Calls P f args W fun e W' => ∃ v, e = .returned v ∧ s.post enc P fn apart true false false W args v W' :=
  law_calls_wt n hp hl hread hty hres hrt htb hvars hfn hval hW hwt (fun xs h _ => hpre xs h) hob
end
end Go.Eng
