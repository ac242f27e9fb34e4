/-
  The iterator of a job's slots: it hands them on, one by one, as long as more is wanted.
-/
import Derived.Test.YtippnelhkdjknaaKA
namespace Go.Proofs.Ytippnelhkdjknaa
open Go Go.RowKit Go.Eng Go.Proofs

/-- What temporaries are known to hold. -/
def Kn (n : Nat) (a : Act) (m : List (Nat × Value)) : Prop := a.tmps.size = n ∧ a.defers = [] ∧ ∀ t v, lk m t = some v → a.tmps[t]? = some v
def AllK (m : List (Nat × Value)) : List (Nat × Value) → Prop
  | [] => True
  | p :: r => lk m p.1 = some p.2 ∧ AllK m r
theorem AllK.get {m : List (Nat × Value)} : ∀ {l : List (Nat × Value)}, AllK m l → ∀ p ∈ l, lk m p.1 = some p.2
  | [], _, p, hp => by cases hp
  | q :: r, h, p, hp => by
    rcases List.mem_cons.1 hp with rfl | hp
    · exact h.1
    · exact AllK.get h.2 p hp
theorem Kn.put {n : Nat} {a : Act} {m : List (Nat × Value)} (h : Kn n a m) (d : Nat) (v : Value) (hd : d < n) : Kn n (a.put (some d) v) ((d, v) :: m) := by
  refine ⟨by simp [Act.put, h.1], h.2.1, fun t u ht => ?_⟩
  simp only [lk] at ht
  split at ht
  · rename_i he
    injection ht with ht; subst ht
    have : d = t := (by simpa using he : t = d).symm
    subst this
    exact put_same h.1 hd
  · rename_i he
    rw [put_other (fun e => he (by simp [e]))]
    exact h.2.2 t u ht
theorem Kn.ev {n : Nat} {a : Act} {m : List (Nat × Value)} (h : Kn n a m) {t : Nat} {v : Value} (ht : lk m t = some v) : a.eval (.tmp t) = v := eval_tmp (h.2.2 t v ht)
theorem Kn.sub {n : Nat} {a : Act} {m l : List (Nat × Value)} (h : Kn n a m) (hl : AllK m l) : Kn n a l :=
  ⟨h.1, h.2.1, fun t v ht => h.2.2 t v (hl.get (t, v) (lk_mem ht))⟩

section
variable {P : Program} {a : Act} {w : World} {dst : Option Nat} {ty : TypeId} {pos : String} {af : Array Edge} {gd : Option (Nat × Bool)}
theorem exec_moveV {x : Operand} {v : Value} (hx : a.eval x = v) : (execOp a.eval ⟨dst, .move x, ty, pos, af, gd⟩).run P w = .ok (.value v) w := by rw [← hx]; exact exec_move
theorem exec_assignV {x : Operand} {v : Value} (hx : a.eval x = v) : (execOp a.eval ⟨dst, .assign x, ty, pos, af, gd⟩).run P w = .ok (.value v) w := by rw [← hx]; exact exec_assign
theorem map3 {x y z : Operand} {v u t : Value} (h : a.eval x = v) (h2 : a.eval y = u) (h3 : a.eval z = t) : #[x, y, z].map a.eval = [v, u, t].toArray := by simp [h, h2, h3]
theorem exec_indexAddrO {t el : TypeId} {x i : Operand} {b off n cap sz : Nat} {k : IntKind} {m : Int} (hu : P.underlying t = some (.slice el)) (hsz : sizeT P el = some sz) (hx : a.eval x = .slice (some ⟨b, off, none⟩) n cap) (hi : a.eval i = .int k m)
    (h0 : 0 ≤ m) (h1 : m < n) : (execOp a.eval ⟨dst, .indexAddr t x i, ty, pos, af, gd⟩).run P w = .ok (.value (.pointer (some ⟨b, off + m.toNat * sz, none⟩))) w := by
  have h2 := run_sizeT (P := P) (w := w) hsz
  unfold execOp; simp only [hx, hi, Instr.indexAt, asIntOf]
  simp [run_underlying hu, h0, h1, h2, addr_add]
theorem exec_build {t : TypeId} {parts : Array (Nat × Operand)} {ps : List (Nat × Value)} {vs : List Value} (hp : (parts.map fun (i, x) => (i, a.eval x)).toList = ps) (hb : P.built t ps = some vs.toArray) :
    (execOp a.eval ⟨dst, .build t parts, ty, pos, af, gd⟩).run P w = .ok (.value (.agg vs.toArray)) w := by
  unfold execOp; simp only [Sem.run_bind, run_build w t _ _ (hp ▸ hb), Result.andThen_ok]
  rfl
theorem exec_yield {l : Nat} {x y : Nat} {ts : Array TypeId} {v : Value} {fn : FuncId} {tmps : Array Value} {assign body : Code} (hx : a.tmps[x]? = some (.func (.yield l) #[] #[])) (hy : a.tmps[y]? = some v) (hr : (Instr.yield l #[v]).run P w = .ok (.round l fn tmps assign body) w) :
    (execOp a.eval ⟨dst, .call { callee := .value (.tmp x), args := #[.tmp y], argTypes := ts }, ty, pos, af, gd⟩).run P w = .ok (.round l fn tmps assign body) w := by
  unfold execOp
  simp [resolve, Act.eval, hx, hy, invoke, go_sem]
  rw [hr]

variable {ops : Array Oper} {Q : Exit → Act → World → Prop} {rest : List Nat} {i : Nat}
theorem opsW_val {v : Value} {w' : World} {d : Nat} {op : Op} (ho : ops[i]? = some ⟨some d, op, ty, pos, af, none⟩) (hnd : isDefer op = false) (hr : (execOp a.eval ⟨some d, op, ty, pos, af, none⟩).run P w = .ok (.value v) w') (h : wpOpsIn Fence.wide 1 P ops Q rest (a.put (some d) v) w') : wpOpsIn Fence.wide 1 P ops Q (i :: rest) a w := by
  simp only [wpOpsIn, ho]
  rw [if_pos (by unfold Region.wanted; rfl)]
  refine ⟨fun _ _ => trivial, ?_⟩
  rw [Oper.semAt_eq _ _ _ (fun c hc => by subst hc; cases hnd), hr]
  exact h
theorem opsW_yield {l : Nat} {fn : FuncId} {tmps : Array Value} {assign body : Code} {R : Ending → World → Prop} {d : Nat} {op : Op} (ho : ops[i]? = some ⟨some d, op, ty, pos, af, none⟩) (hnd : isDefer op = false)
    (hr : (execOp a.eval ⟨some d, op, ty, pos, af, none⟩).run P w = .ok (.round l fn tmps assign body) w) (hR : RoundIn Fence.wide 0 P l fn tmps assign body w R)
    (h : ∀ e w', R e w' → ∃ v, e = .returned v ∧ wpOpsIn Fence.wide 1 P ops Q rest (a.put (some d) v) w') : wpOpsIn Fence.wide 1 P ops Q (i :: rest) a w := by
  simp only [wpOpsIn, ho]
  rw [if_pos (by unfold Region.wanted; rfl)]
  refine ⟨fun _ _ => trivial, ?_⟩
  rw [Oper.semAt_eq _ _ _ (fun c hc => by subst hc; cases hnd), hr]
  refine ⟨fun h => by simp [Fence.wide] at h, ?_⟩
  refine RoundIn.mono hR ?_
  intro e w' he
  obtain ⟨v, rfl, h2⟩ := h e w' he
  exact h2
end
theorem start3 {n : Nat} {x y z : Value} {A : Array Value} (hA : A = #[x] ++ [y, z].toArray) (h : 3 ≤ n) : Kn n { tmps := A ++ Array.replicate (n - A.size) undef, defers := [] } [(0, x), (1, y), (2, z)] := by
  subst hA
  refine ⟨by simp; omega, rfl, fun t v ht => ?_⟩
  have := lk_mem ht
  simp only [List.mem_cons, Prod.mk.injEq, List.not_mem_nil, or_false] at this
  rcases this with ⟨rfl, rfl⟩ | ⟨rfl, rfl⟩ | ⟨rfl, rfl⟩ <;> simp [Array.getElem?_append]
theorem f29_body : Try.f29.body = some (bodyOf Try.f29) := by kernel_rfl
theorem f29_nt : Try.f29.ntmps = 32 := by kernel_rfl
theorem f29_res : Try.f29.results = #[] := by kernel_rfl
theorem f29_enter (args : Array Value) (w : World) : (callFunc 29 args).run Try.prog w = .ok (.enter 29 args) w := by
  unfold callFunc
  have hn : Try.f29.name ≠ "runtime.NumGoroutine" := by decide +kernel
  simp [Try.func29, f29_body, hn]
theorem built36 (g i : Int) : Try.prog.built 36 [(0, .int .i64 g), (1, .int .i64 i)] = some [Value.int .i64 g, .int .i64 i].toArray := by kernel_rfl
end Go.Proofs.Ytippnelhkdjknaa
