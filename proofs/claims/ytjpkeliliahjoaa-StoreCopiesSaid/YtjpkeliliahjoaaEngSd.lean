/-
  Steps by hand: what single operations do, where their operands are known.
-/
import Derived.Test.YtjpkeliliahjoaaEngSc
import Derived.OrdersHeld
namespace Go.Eng
open Go Go.RowKit

section
variable {P : Program} {a : Act} {w : World} {dst : Option Nat} {ty : TypeId} {pos : String} {af : Array Edge} {gd : Option (Nat × Bool)}
theorem put_get (a : Act) (d t : Nat) (v : Value) : (a.put (some d) v).tmps[t]? = if d = t then (if d < a.tmps.size then some v else none) else a.tmps[t]? := by
  simp only [Act.put, Array.getElem?_setIfInBounds]
theorem put_same {a : Act} {d n : Nat} {v : Value} (h : a.tmps.size = n) (hd : d < n) : (a.put (some d) v).tmps[d]? = some v := by rw [put_get, if_pos rfl, if_pos (by omega)]
theorem put_other {a : Act} {d t : Nat} {v : Value} (h : d ≠ t) : (a.put (some d) v).tmps[t]? = a.tmps[t]? := by rw [put_get, if_neg h]
theorem eval_tmp {a : Act} {t : Nat} {v : Value} (h : a.tmps[t]? = some v) : a.eval (.tmp t) = v := by simp [Act.eval, h]

theorem exec_fieldAddr {t : TypeId} {f off b o : Nat} {x : Operand} (h : (fieldOf P t f).map (fun y => (y.1.offset, decide (0 < y.2))) = some (off, true)) (hx : a.eval x = .pointer (some ⟨b, o, none⟩)) :
    (execOp a.eval ⟨dst, .fieldAddr t x f, ty, pos, af, gd⟩).run P w = .ok (.value (.pointer (some ⟨b, o + off, none⟩))) w := by
  cases hf : fieldOf P t f with
  | none => rw [hf] at h; cases h
  | some y =>
    obtain ⟨fl, n⟩ := y
    rw [hf] at h
    simp only [Option.map_some, Option.some.injEq, Prod.mk.injEq, decide_eq_true_eq] at h
    obtain ⟨rfl, hn⟩ := h
    obtain ⟨n, rfl⟩ : ∃ m, n = m + 1 := ⟨n - 1, by omega⟩
    unfold execOp; simp only [hx]
    rw [Sem.run_bind, run_fieldAt hf b o]; rfl
theorem exec_load1 {t : TypeId} {x : Operand} {ad : Addr} {v : Value} (ha : aggT P t = false) (hu : (P.underlying t).isSome = true) (hx : a.eval x = .pointer (some ad)) (hc : w.cell? ad = some v) :
    (execOp a.eval ⟨dst, .load t x, ty, pos, af, gd⟩).run P w = .ok (.value v) w := by
  unfold execOp; simp only [hx]
  rw [Sem.run_bind, run_load_one ha hu hc]; rfl
theorem exec_loadN {t : TypeId} {x : Operand} {b off n : Nat} {vs : List Value} (hs : sizeT P t = some n) (ha : aggT P t = true) (hx : a.eval x = .pointer (some ⟨b, off, none⟩)) (hl : vs.length = n)
    (hc : ∀ (j : Nat) v, vs[j]? = some v → w.cell? ⟨b, off + j, none⟩ = some v) :
    (execOp a.eval ⟨dst, .load t x, ty, pos, af, gd⟩).run P w = .ok (.value (.agg vs.toArray)) w := by
  unfold execOp; simp only [hx]
  rw [Sem.run_bind, run_load_cells hs ha hl hc]; rfl
theorem exec_move {x : Operand} : (execOp a.eval ⟨dst, .move x, ty, pos, af, gd⟩).run P w = .ok (.value (a.eval x)) w := by unfold execOp; rfl
theorem exec_assign {x : Operand} : (execOp a.eval ⟨dst, .assign x, ty, pos, af, gd⟩).run P w = .ok (.value (a.eval x)) w := by unfold execOp; rfl
theorem exec_indexAddr {t el : TypeId} {x i : Operand} {b n cap sz : Nat} {k : IntKind} {m : Int} (hu : P.underlying t = some (.slice el)) (hsz : sizeT P el = some sz) (hx : a.eval x = .slice (some ⟨b, 0, none⟩) n cap) (hi : a.eval i = .int k m)
    (h0 : 0 ≤ m) (h1 : m < n) : (execOp a.eval ⟨dst, .indexAddr t x i, ty, pos, af, gd⟩).run P w = .ok (.value (.pointer (some ⟨b, m.toNat * sz, none⟩))) w := by
  have h2 := run_sizeT (P := P) (w := w) hsz
  unfold execOp; simp only [hx, hi, Instr.indexAt, asIntOf]
  simp [run_underlying hu, h0, h1, h2, addr_add]
theorem exec_store {t : TypeId} {x y : Operand} {b off : Nat} {cur : Array Value} {T : TypeId} {vs : List Value} (hs : sizeT P t = some vs.length) (hx : a.eval x = .pointer (some ⟨b, off, none⟩)) (hy : (a.eval y).cells = vs.toArray)
    (hcur : w.heap[b]? = some (.cells cur T (0, 0))) (hlen : off + vs.length ≤ cur.size) (hone : ∀ v ∈ vs, v.oneCell' = true) :
    (execOp a.eval ⟨dst, .store t x y, ty, pos, af, gd⟩).run P w = .ok .skip (w.setRow b (cur.toList.take off ++ vs ++ cur.toList.drop (off + vs.length)).toArray) := by
  have hst := run_storeCells_at P b off T vs 0 cur w hcur (by omega) hone
  simp only [Nat.add_zero] at hst
  have h1 := run_sizeT (P := P) (w := w) hs
  unfold execOp; simp only [hx, Instr.storeAt, Instr.sureAddr]
  simp [storeVar, h1, hy]
  simp at hst
  rw [hst]; rfl
theorem exec_lss {t t2 : TypeId} {x y : Operand} {k : IntKind} {m n : Int} (hx : a.eval x = .int k m) (hy : a.eval y = .int k n) : (execOp a.eval ⟨dst, .binOp .lss t x y t2, ty, pos, af, gd⟩).run P w = .ok (.value (.bool (decide (m < n)))) w := by
  unfold execOp; simp [hx, hy, eqGuard, binOp, Op.intCmp]
theorem exec_add {t t2 : TypeId} {x y : Operand} {k : IntKind} {m n : Int} (hx : a.eval x = .int k m) (hy : a.eval y = .int k n) : (execOp a.eval ⟨dst, .binOp .add t x y t2, ty, pos, af, gd⟩).run P w = .ok (.value (.int k (k.wrap (m + n)))) w := by
  unfold execOp; simp [hx, hy, eqGuard, binOp, Op.intArith]
theorem exec_len {t el : TypeId} {x : Operand} {A : Option Addr} {n c : Nat} (hu : P.underlying t = some (.slice el)) (hx : a.eval x = .slice A n c) : (execOp a.eval ⟨dst, .call { callee := .builtin .len, args := #[x], argTypes := #[t] }, ty, pos, af, gd⟩).run P w = .ok (.value (.int .i64 n)) w := by
  unfold execOp; simp only [resolve, invoke, builtin]
  simp [Builtin.len_, hx, run_underlying hu, goInt]
theorem exec_alloc {t : TypeId} {n : Nat} (h : ((P.info? t).bind (·.zero)).map (fun z => z.cells.size) = some n) :
    ∃ zs : Array Value, zs.size = n ∧ (execOp a.eval ⟨dst, .alloc t, ty, pos, af, gd⟩).run P w = .ok (.value (.pointer (some ⟨w.heap.size, 0, none⟩))) (w.alloc (.cells zs t)) := by
  cases hi : P.info? t with
  | none => rw [hi] at h; cases h
  | some it =>
    cases hz : it.zero with
    | none => rw [hi] at h; simp [hz] at h
    | some z =>
      rw [hi] at h
      simp [hz] at h
      refine ⟨z.cells, h, ?_⟩
      unfold execOp; simp only [Instr.alloc]
      simp [zeroValue, typeInfo, hi, hz, newVar, newRow]
theorem exec_not {t : TypeId} {x : Operand} {b : Bool} (hx : a.eval x = .bool b) : (execOp a.eval ⟨dst, .unOp .not t x, ty, pos, af, gd⟩).run P w = .ok (.value (.bool (!b))) w := by
  unfold execOp; simp [hx, Op.unary]
theorem map2 {x y : Operand} {v u : Value} (h : a.eval x = v) (h2 : a.eval y = u) : #[x, y].map a.eval = [v, u].toArray := by simp [h, h2]
theorem map1 {x : Operand} {v : Value} (h : a.eval x = v) : #[x].map a.eval = [v].toArray := by simp [h]
theorem exec_call {k : Nat} {args : Array Operand} {ts : Array TypeId} {vs : List Value} (he : ∀ (args : Array Value) (w : World), (callFunc k args).run P w = .ok (.enter k args) w) (hv : args.map a.eval = vs.toArray) :
    (execOp a.eval ⟨dst, .call { callee := .value (.func k), args, argTypes := ts }, ty, pos, af, gd⟩).run P w = .ok (.enter k vs.toArray) w := by
  unfold execOp
  have := he vs.toArray w
  simpa [resolve, Act.eval, Deferred.ofValue, invoke, hv] using this

variable {ops : Array Oper} {Q : Exit → Act → World → Prop} {rest : List Nat} {i : Nat} {o : Oper}
theorem wpOps_val {v : Value} {w' : World} {d : Nat} {op : Op} (ho : ops[i]? = some ⟨some d, op, ty, pos, af, none⟩) (hr : (execOp a.eval ⟨some d, op, ty, pos, af, none⟩).run P w = .ok (.value v) w') (h : wpOps P ops Q rest (a.put (some d) v) w') : wpOps P ops Q (i :: rest) a w :=
  wpOps_step ho rfl (by rw [Oper.wp, hr]; exact h)
theorem wpOps_skip {w' : World} {op : Op} (ho : ops[i]? = some ⟨none, op, ty, pos, af, none⟩) (hr : (execOp a.eval ⟨none, op, ty, pos, af, none⟩).run P w = .ok .skip w') (h : wpOps P ops Q rest a w') : wpOps P ops Q (i :: rest) a w :=
  wpOps_step ho rfl (by rw [Oper.wp, hr]; exact h)
theorem wpOps_call {k : Nat} {vs : Array Value} {R : Ending → World → Prop} {d : Nat} {op : Op} (ho : ops[i]? = some ⟨some d, op, ty, pos, af, none⟩) (hr : (execOp a.eval ⟨some d, op, ty, pos, af, none⟩).run P w = .ok (.enter k vs) w) (hc : Calls P k vs w R)
    (h : ∀ e w', R e w' → ∃ v, e = .returned v ∧ wpOps P ops Q rest (a.put (some d) v) w') : wpOps P ops Q (i :: rest) a w :=
  wpOps_step ho rfl (by
    rw [Oper.wp, hr]
    refine hc.mono fun e w' he => ?_
    obtain ⟨v, rfl, h2⟩ := h e w' he
    exact h2)

variable {S : World → Prop} {fuel : Nat} {listed : Array Bool}
theorem held_take {v : Value} {d : Nat} {op : Op} (ho : ops[i]? = some ⟨some d, op, ty, pos, af, none⟩) (hs : Region.noSelect ops = true) (hf : Region.free .any ops listed i = true) (hr : (Region.ready .any ops listed).contains i = true)
    (hQ : ∀ c a d v w, Q (.panic c) (a.put d v) w → Q (.panic c) a w) (hy : ∀ w, S w → (execOp a.eval ⟨some d, op, ty, pos, af, none⟩).run P w = .ok (.value v) w) (hS : S w)
    (h : wpAnyH P .any ops Q S fuel (listed.setIfInBounds i true) (a.put (some d) v) w) : wpAnyH P .any ops Q S (fuel + 1) listed a w :=
  wpAnyH_take ho hs hf hr (fun c a w => hQ c a _ _ w) (.inl ⟨by unfold Region.wanted; rfl, hy⟩) hS h
theorem held_one {n : Nat} (hn : n = fuel + 1) (ho : ops[i]? = some o) (hr : Region.ready .any ops listed = [i]) (hg : o.guard = none)
    (h : o.wp P a w (fun a' w' => S w' ∧ wpAnyH P .any ops Q S fuel (listed.setIfInBounds i true) a' w') Q) : wpAnyH P .any ops Q S n listed a w := by
  subst hn
  refine wpAnyH_all hr (by simp) (fun j hj => ?_)
  obtain rfl : j = i := by simpa using hj
  unfold wpOp
  simp only [ho]
  rw [if_pos (by unfold Region.wanted; rw [hg])]
  exact .inl h
theorem held_val {v : Value} {w' : World} {d : Nat} {op : Op} (ho : ops[i]? = some ⟨some d, op, ty, pos, af, none⟩) (hr : Region.ready .any ops listed = [i]) (hrun : (execOp a.eval ⟨some d, op, ty, pos, af, none⟩).run P w = .ok (.value v) w') (hS : S w')
    (h : wpAnyH P .any ops Q S fuel (listed.setIfInBounds i true) (a.put (some d) v) w') : wpAnyH P .any ops Q S (fuel + 1) listed a w :=
  held_one rfl ho hr rfl (by rw [Oper.wp, hrun]; exact ⟨hS, h⟩)
theorem held_skip {w' : World} {op : Op} (ho : ops[i]? = some ⟨none, op, ty, pos, af, none⟩) (hr : Region.ready .any ops listed = [i]) (hrun : (execOp a.eval ⟨none, op, ty, pos, af, none⟩).run P w = .ok .skip w') (hS : S w')
    (h : wpAnyH P .any ops Q S fuel (listed.setIfInBounds i true) a w') : wpAnyH P .any ops Q S (fuel + 1) listed a w :=
  held_one rfl ho hr rfl (by rw [Oper.wp, hrun]; exact ⟨hS, h⟩)
theorem held_call {k : Nat} {vs : Array Value} {R : Ending → World → Prop} {d : Nat} {op : Op} (ho : ops[i]? = some ⟨some d, op, ty, pos, af, none⟩) (hr : Region.ready .any ops listed = [i]) (hrun : (execOp a.eval ⟨some d, op, ty, pos, af, none⟩).run P w = .ok (.enter k vs) w) (hc : Calls P k vs w R)
    (h : ∀ e w', R e w' → ∃ v, e = .returned v ∧ S w' ∧ wpAnyH P .any ops Q S fuel (listed.setIfInBounds i true) (a.put (some d) v) w') : wpAnyH P .any ops Q S (fuel + 1) listed a w :=
  held_one rfl ho hr rfl (by
    rw [Oper.wp, hrun]
    refine hc.mono fun e w' he => ?_
    obtain ⟨v, rfl, h2⟩ := h e w' he
    exact h2)
end

/-- A region's operations, by its number. -/
def regOps (id : Nat) : Code → Array Oper
  | .region i ops _ => if i = id then ops else #[]
  | .seq a b | .cond _ a b => if (regOps id a).size = 0 then regOps id b else regOps id a
  | .block _ c | .loop c | .scope c => regOps id c
  | _ => #[]
/-- Behind a row that is written anew. -/
theorem below_setRow {N b : Nat} {w0 w : World} {cs : Array Value} (h : Below N w0 w) (hN : N ≤ b) : Below N w0 (w.setRow b cs) :=
  ⟨h.os, h.tape, h.output, by simpa using h.size, fun k hk => by
    rw [setRow_other w b k cs (by omega)]
    exact h.block k hk⟩
theorem below_drew {N : Nat} {w0 w : World} (h : Below N w0 w) : Below N w0 { w with drawn := w.drawn + 1 } := ⟨h.os, h.tape, h.output, h.size, h.block⟩
theorem below_trans {N : Nat} {w0 w w' : World} (h : Below N w0 w) (h2 : Below w.heap.size w w') (hN : N ≤ w.heap.size) : Below N w0 w' :=
  ⟨h2.os.trans h.os, h2.tape.trans h.tape, h2.output.trans h.output, Nat.le_trans h.size h2.size, fun k hk => (h2.block k (by omega)).trans (h.block k hk)⟩
theorem set_splice {l : List Value} {off : Nat} {v : Value} (h : off < l.length) : l.take off ++ [v] ++ l.drop (off + 1) = l.set off v := by
  rw [List.set_eq_take_append_cons_drop, if_pos h]; simp
end Go.Eng
