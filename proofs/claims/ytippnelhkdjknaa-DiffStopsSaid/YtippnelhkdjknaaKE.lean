/-
  Steps by hand: operations under a guard, parts of results, picks.
-/
import Derived.Test.YtippnelhkdjknaaCG
namespace Go.Proofs.Ytippnelhkdjknaa
open Go Go.RowKit Go.Eng Go.Proofs
section
variable {P : Program} {a : Act} {w : World} {dst : Option Nat} {ty : TypeId} {pos : String} {af : Array Edge} {gd : Option (Nat × Bool)}
theorem exec_extract {x : Operand} {i : Nat} {vs : List Value} {v : Value} (hx : a.eval x = .tuple vs.toArray) (hv : vs[i]? = some v) : (execOp a.eval ⟨dst, .extract x i, ty, pos, af, gd⟩).run P w = .ok (.value v) w := by
  unfold execOp; simp [hx, Instr.extract, hv]
theorem exec_pick {c x y : Operand} {b : Bool} {v : Value} (hc : a.eval c = .bool b) (hv : (if b then a.eval x else a.eval y) = v) : (execOp a.eval ⟨dst, .pick c x y, ty, pos, af, gd⟩).run P w = .ok (.value v) w := by
  subst hv
  unfold execOp
  cases b <;> simp [hc, asBool]
theorem exec_eql {t t2 : TypeId} {x y : Operand} {k : IntKind} {m n : Int} (hx : a.eval x = .int k m) (hy : a.eval y = .int k n) : (execOp a.eval ⟨dst, .binOp .eql t x y t2, ty, pos, af, gd⟩).run P w = .ok (.value (.bool (decide (m = n)))) w := by
  unfold execOp; simp [hx, hy, eqGuard, binOp, Op.intCmp]
  rw [Bool.eq_iff_iff]; simp
theorem map0 : (#[] : Array Operand).map a.eval = ([] : List Value).toArray := by simp
variable {ops : Array Oper} {Q : Exit → Act → World → Prop} {rest : List Nat} {i : Nat}
theorem wanted_of {k t : Nat} {b : Bool} {o ok : Oper} (hg : o.guard = some (k, b)) (hk : ops[k]? = some ok) (hd : ok.dst = some t) (hv : a.tmps[t]? = some (.bool b)) : Region.wanted o (yielded ops a.tmps) = true := by
  unfold Region.wanted yielded
  rw [hg]
  simp [hk, hd, hv]
theorem wpOps_valG {v : Value} {w' : World} {d k t : Nat} {b : Bool} {op : Op} {ok : Oper} (ho : ops[i]? = some ⟨some d, op, ty, pos, af, some (k, b)⟩) (hk : ops[k]? = some ok) (hd : ok.dst = some t) (hv : a.tmps[t]? = some (.bool b))
    (hr : (execOp a.eval ⟨some d, op, ty, pos, af, some (k, b)⟩).run P w = .ok (.value v) w') (h : wpOps P ops Q rest (a.put (some d) v) w') : wpOps P ops Q (i :: rest) a w := by
  simp only [wpOps, ho]
  rw [if_pos (wanted_of rfl hk hd hv)]
  exact .inl (by rw [Oper.wp, hr]; exact h)
end
theorem diff1 : diffL knownS 1 = ([5], []) := by kernel_rfl
end Go.Proofs.Ytippnelhkdjknaa
