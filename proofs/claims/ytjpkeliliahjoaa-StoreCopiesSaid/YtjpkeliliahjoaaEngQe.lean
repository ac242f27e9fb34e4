/-
  A region's end: a test whether a slice is nil; a call that writes over all that is read, whose result is stored into a variable.
-/
import Derived.Test.YtjpkeliliahjoaaEngQd
namespace Go.Eng
open Go Go.RowKit

def nilOperand : Operand → Bool
  | .const (.slice none 0 0) => true
  | _ => false
/-- A test whether a slice is nil: where; the slice. -/
def nqOp (P : Program) (n q : Nat) (σ : St) (o : Oper) : Option (Nat × E) :=
  match o.dst, o.guard, o.op with
  | some t, none, .binOp .eql T x y _ =>
    if nilOperand y = true ∧ t < n then
      match getD_ P σ [] x T, P.underlying T with
      | some (e, .list _), some (.slice _) => if e.lt q then some (t, e) else none
      | _, _ => none
    else none
  | _, _, _ => none
def setT (σ : St) (t : Nat) (c : SC) : St := ⟨upd σ.tm t (some ([], .one c)), σ.hp, σ.live⟩

structure WsOp where
  t3 : Nat
  id : Nat
  f : Ty
def isSc (t : Ty) : Bool := t.scalar
def wsOp (P : Program) (wl : FTbl) (n : Nat) (σ : St) (o1 o2 : Oper) : Option WsOp :=
  match o1.dst, o1.guard, o1.op, o2.dst, o2.guard, o2.op with
  | some t3, none, .call { callee := .value (.func k2), args, argTypes }, none, none, .store T x (.tmp t3') =>
    match argsE P σ [] args.toList argTypes.toList, lk wl k2, getV P σ [] x T, sizeT P T with
    | some es, some (ps, .agg f), some (.one (.adr id 0)), some sz =>
      match σ.hp id with
      | some (false, old) => if t3' = t3 ∧ t3 < n ∧ es.map (·.2) = ps ∧ old.length = f.toL.length ∧ f.toL.all isSc = true ∧ sz = f.toL.length ∧ notTmp t3 x = true ∧ P.underlying T ≠ none then some ⟨t3, id, f⟩ else none
      | _ => none
    | _, _, _, _ => none
  | _, _, _, _, _, _ => none
def varCellsQ (q : Nat) (fs : List Ty) : List SC := (cellsE (.var q) 0 fs).map fun x => .dat x.1 x.2
def WsOp.after (x : WsOp) (σ : St) (q : Nat) : St :=
  ⟨fun t => if t = x.t3 then none else hvTm σ.tm t, fun i => if i = x.id then some (false, varCellsQ q x.f.toL) else none, fun _ => none⟩

section
variable {P : Program} {w w0 : World} {S0 : Base} {ρ : Nat → D} {p : Nat} {G : Gh} {σ : St} {a : Act} {n : Nat}

theorem run_equalIn_nilsl {t el : TypeId} (hu : P.underlying t = some (.slice el)) (p : Option Addr) (m c d : Nat) : (Op.equalIn (d + 1) t (.slice p m c) (.slice none 0 0)).run P w = .ok p.isNone w := by
  cases p <;> simp [Op.equalIn, run_underlying hu]
theorem run_eq_nilsl {t el : TypeId} (hu : P.underlying t = some (.slice el)) (p : Option Addr) (m c : Nat) (x y : Operand) :
    (do eqGuard .eql t x y (.slice p m c) (.slice none 0 0); binOp .eql t (.slice p m c) (.slice none 0 0) : Sem Value).run P w = .ok (.bool p.isNone) w := by
  have h1 : binOp .eql t (.slice p m c) (.slice none 0 0) = (do pure (.bool (← Op.equalIn (9999 + 1) t (.slice p m c) (.slice none 0 0)))) := rfl
  have h2 : eqGuard .eql t x y (.slice p m c) (.slice none 0 0) = pure () := rfl
  rw [h1, h2, Sem.run_bind, Sem.run_pure, Result.andThen_ok, Sem.run_bind, run_equalIn_nilsl hu]; rfl

theorem rep_none {w : World} {S : Foot} {m c : Nat} {l : List D} (h : Rep w S (.slice none m c) (.list l)) : l.length = 0 := by
  generalize hv : Value.slice none m c = v at h
  generalize hd : D.list l = d at h
  cases h <;> first
    | (cases hd; done)
    | (injection hd with hd; subst hd; rfl)
    | cases hv

/-- One more variable. -/
theorem Sim.setVar (hs : Sim n w0 S0 ⟨ρ, p, fun i => i < p⟩ G σ a w) (d : D) {t : Nat} (ht : t < n) {v : Value} {c : SC} (hl : c.lt (p + 1) = true) (hc : RSC ⟨upd ρ p d, p + 1, fun i => i < p + 1⟩ w G c v) :
    Sim n w0 S0 ⟨upd ρ p d, p + 1, fun i => i < p + 1⟩ G (setT σ t c) (a.put (some t) v) w := by
  have hag : ∀ i, i < p → upd ρ p d i = ρ i := fun i hi => upd_ne _ _ (by omega)
  have hlat : Later ⟨ρ, p, fun i => i < p⟩ w G ⟨upd ρ p d, p + 1, fun i => i < p + 1⟩ w G :=
    ⟨fun e he => ⟨den_agree hag he, E.lt_mono' (Nat.le_succ p) he⟩, fun i hi => Nat.lt_succ_of_lt hi, fun _ _ h => h, fun _ _ _ => rfl, fun _ _ => rfl, fun _ _ => rfl⟩
  have h1 := hs.later_same hlat
  refine ⟨h1.m.congr rfl rfl, ?_, by rw [Act.put_size]; exact hs.sz, hs.defers⟩
  intro t' c' s hts
  simp only [setT] at hts
  by_cases htt : t' = t
  · subst htt
    simp only [upd_same, Option.some.injEq, Prod.mk.injEq] at hts
    obtain ⟨rfl, rfl⟩ := hts
    refine ⟨v, ?_, by simp, hl, ?_⟩
    · have := hs.sz
      simp [Act.put, this, ht]
    · simp only [condB, List.all_nil, if_true]
      exact hc
  · rw [upd_ne _ _ htt] at hts
    obtain ⟨u, q1, q2, q3, q4⟩ := h1.t t' c' s hts
    refine ⟨u, ?_, q2, q3, q4⟩
    simp only [Act.put]
    rw [Array.getElem?_setIfInBounds_ne (Ne.symm htt)]
    exact q1

theorem nqOp_ok {ops : Array Oper} {c t : Nat} {o : Oper} {e : E} (ho : ops[c]? = some o) (h : nqOp P n p σ o = some (t, e)) (hs : Sim n w0 S0 ⟨ρ, p, fun i => i < p⟩ G σ a w) (Q : Exit → Act → World → Prop) (rest : List Nat)
    (h1 : (den ρ e).toL.length = 0 → ∀ b : Bool, ∀ a', Sim n w0 S0 ⟨upd ρ p (.bool b), p + 1, fun i => i < p + 1⟩ G (setT σ t (.dat (.var p) .bool)) a' w → wpOps P ops Q rest a' w)
    (h2 : (den ρ e).toL.length ≠ 0 → ∀ a', Sim n w0 S0 ⟨upd ρ p (.bool false), p + 1, fun i => i < p + 1⟩ G (setT σ t (.dat (.kbool false) .bool)) a' w → wpOps P ops Q rest a' w) :
    wpOps P ops Q (c :: rest) a w := by
  unfold nqOp at h
  split at h
  · rename_i t0 T x y yt hd hg hop
    split at h
    · rename_i hny
      obtain ⟨hny, htn⟩ := hny
      have hyc : y = .const (.slice none 0 0) := by
        unfold nilOperand at hny
        split at hny
        · rfl
        · cases hny
      subst hyc
      split at h
      · rename_i e' u el hx hu
        split at h
        · injection h with h; simp only [Prod.mk.injEq] at h; obtain ⟨rfl, rfl⟩ := h
          obtain ⟨x1, x2, x3⟩ := getD_ok hs.t (pc := []) rfl hx
          obtain ⟨l, hl, _⟩ := has_list.1 x3
          have hlr : den ρ e' = .list l := hl
          have x2' : Rep w G.S (a.eval x) (.list l) := by rw [← hlr]; exact x2
          obtain ⟨A, cap, hv⟩ := x2'.inv_list
          have hrun : (execOp a.eval o).run P w = .ok (.value (.bool A.isNone)) w := by
            have hexec : (execOp a.eval o) = (do let v ← (do eqGuard .eql T x (.const (.slice none 0 0)) (a.eval x) (a.eval (.const (.slice none 0 0))); binOp .eql T (a.eval x) (a.eval (.const (.slice none 0 0))) : Sem Value); pure (.value v)) := by unfold execOp; simp only [hop]
            have he : a.eval (.const (.slice none 0 0)) = .slice none 0 0 := rfl
            have h3 := run_eq_nilsl (P := P) (w := w) hu A l.length cap x (.const (.slice none 0 0))
            rw [hexec, he, hv, Sem.run_bind, h3]; rfl
          refine wpOps_step ho hg ?_
          rw [Oper.wp, hrun]
          show wpOps P ops Q rest (a.put o.dst (.bool A.isNone)) w
          rw [hd]
          by_cases hl0 : l.length = 0
          · refine h1 (by rw [hlr]; exact hl0) A.isNone _ (hs.setVar _ htn (by simp [SC.lt, E.lt]) ⟨by simp [E.lt], ?_, ?_⟩)
            · show Rep w G.S _ (upd ρ p (.bool A.isNone) p)
              rw [upd_same]; exact .bool _
            · show Has .bool (upd ρ p (.bool A.isNone) p)
              rw [upd_same]; exact has_bool.2 ⟨_, rfl⟩
          · have hA : A.isNone = false := by
              cases hA : A with
              | some _ => rfl
              | none =>
                exfalso
                rw [hA] at hv
                rw [hv] at x2'
                exact hl0 (rep_none x2')
            rw [hA]
            exact h2 (by rw [hlr]; exact hl0) _ (hs.setVar _ htn (by simp [SC.lt, E.lt]) ⟨by simp [E.lt], .bool _, has_bool.2 ⟨_, rfl⟩⟩)
        · cases h
      · cases h
    · cases h
  · cases h

theorem wsOp_ok {wl : FTbl} {ops : Array Oper} {c : Nat} {o1 o2 : Oper} {x : WsOp} (ho1 : ops[c]? = some o1) (ho2 : ops[c + 1]? = some o2) (h : wsOp P wl n σ o1 o2 = some x) (hs : Sim n w0 S0 ⟨ρ, p, fun i => i < p⟩ G σ a w)
    (hwl : ∀ k y, lk wl k = some y → WildFn P k y.1 y.2) (hfoot : ∀ b o, ¬ S0.foot b o) (hnf : ¬ S0.fr) (hwz : S0.wz) (rest : List Nat) (Q : Exit → Act → World → Prop)
    (hQ : ∀ d a' w' G', Has (.agg x.f) d → Sim n w0 S0 ⟨upd ρ p d, p + 1, fun i => i < p + 1⟩ G' (x.after σ p) a' w' → wpOps P ops Q rest a' w') :
    wpOps P ops Q (c :: (c + 1) :: rest) a w := by
  unfold wsOp at h
  split at h
  · rename_i t3 k2 args argTypes T xo t3' hd1 hg1 hop1 hd2 hg2 hop2
    split at h
    · rename_i es ps f id sz hes hk hx hsz
      split at h
      · rename_i old hid
        split at h
        · rename_i hcnd
          obtain ⟨rfl, htn, hps, hol, hfs, hszf, hnt, hTu⟩ := hcnd
          injection h with h; subst h
          have hW := hwl k2 _ hk
          obtain ⟨k1, k2'⟩ := argsE_ok hs.t (pc := []) rfl hes
          have hlen : (args.toList.map a.eval).length = (es.map fun y => den ρ y.1).length := by simp [k1]
          have hrep : ∀ (i : Nat) v d, (args.toList.map a.eval)[i]? = some v → (es.map fun y => den ρ y.1)[i]? = some d → Rep w G.S v d := by
            intro i v d hv hd
            simp only [List.getElem?_map, Option.map_eq_some_iff] at hv hd
            obtain ⟨z, hz, rfl⟩ := hv
            obtain ⟨z', hz', rfl⟩ := hd
            exact (k2' i z z' hz hz').1
          have hhas : HasL (.ofL ps) (es.map fun y => den ρ y.1) := by
            rw [← hps]
            refine hasL_mk (by simp) fun j u z hj hz => ?_
            simp only [List.getElem?_map, Option.map_eq_some_iff] at hj hz
            obtain ⟨z1, hz1, rfl⟩ := hj
            obtain ⟨z2, hz2, rfl⟩ := hz
            rw [hz1] at hz2; injection hz2 with hz2; subst hz2
            have hjl : j < args.toList.length := by rw [← k1]; exact (List.getElem?_eq_some_iff.1 hz1).1
            exact (k2' j _ z1 (List.getElem?_eq_getElem hjl) hz1).2
          have hargs : (args.toList.map a.eval).toArray = args.map a.eval := by apply Array.ext'; simp
          have hrun1 : (execOp a.eval o1).run P w = .ok (.enter k2 (args.map a.eval)) w := by
            unfold execOp
            have := hW.enter (args.map a.eval) w
            simpa [hop1, resolve, Act.eval, Deferred.ofValue, invoke] using this
          obtain ⟨hbx0, hsc0, ⟨vs, T0, hg', hr⟩, hnS⟩ := hs.m.box _ _ _ hid
          simp only [Bool.false_eq_true, if_false] at hnS
          have hxv := (getV_ok hs.t (pc := []) rfl hx).2
          have hcall := hW.calls w G.S _ _ (fun b o hb => ⟨hs.m.footlt b o hb, hs.m.wz hwz b o hb⟩) hlen hrep hhas
          rw [hargs] at hcall
          refine wpOps_step ho1 hg1 ?_
          rw [Oper.wp, hrun1]
          refine hcall.mono ?_
          rintro e w1 ⟨v, S', d, rfl, hbel, hS', hS'lt, hrv, hhv⟩
          show wpOps P ops Q ((c + 1) :: rest) (a.put o1.dst v) w1
          rw [hd1]
          obtain ⟨l, rfl, hl, cs, rfl, hcl, hcr⟩ := hrv.aggOf hhv
          have hblt : G.β id < w.heap.size := (getElem?_eq_some_iff.1 hg').1
          have hg1' : w1.heap[G.β id]? = some (.cells vs.toArray T0 (0, 0)) := by
            rw [hbel.block _ hblt (fun ⟨o, ho⟩ => hnS o ho)]; exact hg'
          have hll : l.length = f.toL.length := hasL_len hl
          have hone : ∀ u ∈ cs, u.oneCell' = true := by
            intro u hu
            obtain ⟨i, hi⟩ := List.getElem?_of_mem hu
            have hil : i < cs.length := (List.getElem?_eq_some_iff.1 hi).1
            have hfi : f.toL[i]? = some (f.toL[i]'(by omega)) := List.getElem?_eq_getElem _
            obtain ⟨y, hy, hyt⟩ := hasL_get hl i _ hfi
            exact (hcr i u y hi hy).oneCell hyt (List.all_eq_true.1 hfs _ (List.mem_of_getElem? hfi))
          have hcvs : cs.length = vs.length := by rw [hcl, hll, ← hol, hr.1]
          have hst := run_storeCells_at P (G.β id) 0 T0 cs 0 vs.toArray w1 hg1' (by simp [hcvs]) hone
          simp only [Nat.add_zero, Nat.zero_add, List.take_zero, List.nil_append] at hst
          have hdrop : vs.drop cs.length = [] := by rw [hcvs]; exact List.drop_length
          have hsz' : (a.put (some t3') (.agg cs.toArray)).tmps.size = n := by rw [Act.put_size]; exact hs.sz
          have hex : (a.put (some t3') (.agg cs.toArray)).eval xo = a.eval xo := by
            cases xo with
            | tmp t =>
              have hne2 : t ≠ t3' := by simpa [notTmp] using hnt
              simp only [Act.eval, Act.put]
              rw [Array.getD_eq_getD_getElem?, Array.getD_eq_getD_getElem?, Array.getElem?_setIfInBounds_ne (Ne.symm hne2)]
            | _ => rfl
          have hey : (a.put (some t3') (.agg cs.toArray)).eval (.tmp t3') = .agg cs.toArray := by
            have := hs.sz
            simp [Act.eval, Act.put, this, htn]
          obtain ⟨w2, hw2⟩ : ∃ w2, w2 = w1.setRow (G.β id) cs.toArray := ⟨_, rfl⟩
          have hrun2 : (execOp (a.put (some t3') (.agg cs.toArray)).eval o2).run P w1 = .ok .skip w2 := by
            have h1 := run_sizeT (P := P) (w := w1) hsz
            unfold execOp; simp only [hop2, hex, hey, hxv, Instr.storeAt, Instr.sureAddr]
            have h9 : (Value.agg cs.toArray).cells = cs.toArray := by
              simp [Value.cells]
            have e9 : sz = cs.length := by rw [hszf, ← hll, ← hcl]
            simp [storeVar, h1, h9, e9]
            simp [hdrop] at hst
            rw [hst, hw2]; rfl
          refine wpOps_step ho2 hg2 ?_
          rw [Oper.wp, hrun2]
          show wpOps P ops Q rest ((a.put (some t3') (.agg cs.toArray)).put o2.dst undef) w2
          have hheap : w2.heap[G.β id]? = some (.cells cs.toArray T0 (0, 0)) := by rw [hw2]; exact setRow_heap w1 _ _ _ T0 _ hg1'
          have hother : ∀ k, k ≠ G.β id → w2.heap[k]? = w1.heap[k]? := fun k hk => by rw [hw2]; exact setRow_other w1 _ k _ hk
          have hsize : w2.heap.size = w1.heap.size := by rw [hw2]; simp
          have hnS' : ∀ o, ¬ S' (G.β id) o := by
            intro o ho
            rcases hS' _ o ho with ⟨o', h'⟩ | h'
            · exact hnS o' h'
            · omega
          have hneS : ∀ b o, S' b o → b ≠ G.β id := fun b o hb he => hnS' o (he ▸ hb)
          have hrep2 : ∀ (i : Nat) u y, cs[i]? = some u → l[i]? = some y → Rep w2 S' u y := fun i u y hu hy =>
            (hcr i u y hu hy).keep (fun _ _ h => h) (fun b o hb => by simp only [World.cell?, hother b (hneS b o hb)])
          have hput2 : (a.put (some t3') (.agg cs.toArray)).put o2.dst undef = a.put (some t3') (.agg cs.toArray) := by rw [hd2]; rfl
          rw [hput2]
          have hag : ∀ i, i < p → upd ρ p (.agg l) i = ρ i := fun i hi => upd_ne _ _ (by omega)
          refine hQ (.agg l) _ w2 ⟨S', G.β, G.τ⟩ hhv ⟨⟨?_, fun b o h => absurd h (hfoot b o), fun b o h => absurd h (hfoot b o), fun i b hi => ⟨Nat.lt_succ_of_lt (hs.m.pin i b hi).1, (hs.m.pin i b hi).2⟩, fun _ _ _ => trivial, ?_, ?_, ?_, ?_, ?_, ?_, ?_, ?_, ?_, fun h => absurd h hnf, ?_⟩, ?_, hsz', hs.defers⟩
          · refine ⟨?_, ?_, ?_, ?_, fun k hk hm => ?_⟩
            · rw [hw2]; exact hbel.os.trans hs.m.below.os
            · rw [hw2]; exact hbel.tape.trans hs.m.below.tape
            · rw [hw2]; exact hbel.output.trans hs.m.below.output
            · rw [hsize]; exact Nat.le_trans hs.m.below.size hbel.size
            · have hkb : k ≠ G.β id := by
                rintro rfl
                rcases hbx0 with h | ⟨h, _⟩
                · omega
                · exact hm h
              rw [hother k hkb, hbel.block k (Nat.lt_of_lt_of_le hk hs.m.below.size) ?_]
              · exact hs.m.below.block k hk hm
              · rintro ⟨o, ho⟩
                rcases hs.m.footnew k o ho with h | h | h
                · exact hfoot k o h
                · omega
                · exact hm h
          · intro b o hb
            rw [hsize]; exact (hS'lt b o hb).1
          · intro b o hb
            rcases hS' b o hb with ⟨o', h'⟩ | h'
            · exact .inr ((hs.m.footnew b o' h').resolve_left (hfoot b o'))
            · exact .inr (.inl (Nat.le_trans hs.m.below.size h'))
          · intro i y hi
            simp only [WsOp.after] at hi
            split at hi
            · rename_i hii; subst hii
              exact Nat.lt_succ_of_lt (hs.m.boxM _ _ hid)
            · cases hi
          · intro i ro cs' hi
            simp only [WsOp.after] at hi
            split at hi
            · rename_i hii; subst hii
              simp only [Option.some.injEq, Prod.mk.injEq] at hi
              obtain ⟨rfl, rfl⟩ := hi
              have hvl : (varCellsQ p f.toL).length = f.toL.length := by unfold varCellsQ; rw [List.length_map]; exact cellsE_len _ _ _
              have hvg : ∀ (j : Nat) sc, (varCellsQ p f.toL)[j]? = some sc → ∃ ty, f.toL[j]? = some ty ∧ sc = .dat (.un (.cell j) (.var p)) ty := by
                intro j sc hj
                unfold varCellsQ at hj
                simp only [List.getElem?_map, Option.map_eq_some_iff] at hj
                obtain ⟨z, hz, rfl⟩ := hj
                rw [cellsE_get, Option.map_eq_some_iff] at hz
                obtain ⟨ty, h1, rfl⟩ := hz
                exact ⟨ty, h1, by rw [Nat.zero_add]⟩
              refine ⟨hbx0, ?_, ⟨cs, T0, hheap, ?_, ?_⟩, ?_⟩
              · rw [List.all_eq_true]
                intro sc hsc
                obtain ⟨j, hj⟩ := List.getElem?_of_mem hsc
                obtain ⟨ty, h1, rfl⟩ := hvg j sc hj
                exact List.all_eq_true.1 hfs _ (List.mem_of_getElem? h1)
              · rw [hvl, hcl, hll]
              · intro j sc u hj hu
                obtain ⟨ty, h1, rfl⟩ := hvg j sc hj
                obtain ⟨y, hy, hyt⟩ := hasL_get hl j ty h1
                have hd : den (upd ρ p (.agg l)) (.un (.cell j) (.var p)) = y := by
                  show (U.cell j).den (upd ρ p (.agg l) p) = y
                  rw [upd_same]
                  exact toL_getD hy
                refine ⟨by simp [E.lt], ?_, ?_⟩
                · show Rep w2 S' u (den (upd ρ p (.agg l)) _)
                  rw [hd]; exact hrep2 j u y hu hy
                · show Has ty (den (upd ρ p (.agg l)) _)
                  rw [hd]; exact hyt
              · simp only [Bool.false_eq_true, if_false]
                exact hnS'
            · cases hi
          · intro i j y z hi hj _
            simp only [WsOp.after] at hi hj
            split at hi
            · rename_i h1
              split at hj
              · rename_i h2; rw [h1, h2]
              · cases hj
            · cases hi
          · intro g e T t h; cases h
          · intro g y b' h; cases h
          · intro g g' y z b' h; cases h
          · intro g id y z b' h; cases h
          · intro _ b o hb
            obtain ⟨h1, cur, T1, h2⟩ := hS'lt b o hb
            exact ⟨cur, T1, by rw [hother b (hneS b o hb)]; exact h2⟩
          · intro t c' s hts
            simp only [WsOp.after] at hts
            split at hts
            · cases hts
            · rename_i hnt3
              have hput : ∀ v, a.tmps[t]? = some v → (a.put (some t3') (.agg cs.toArray)).tmps[t]? = some v := by
                intro v hv
                simp only [Act.put]
                rw [Array.getElem?_setIfInBounds_ne (Ne.symm hnt3)]
                exact hv
              have keep : ∀ (s : SV), σ.tm t = some (c', s) → (∀ v, RSV ⟨ρ, p, fun i => i < p⟩ w G s v → RSV ⟨upd ρ p (.agg l), p + 1, fun i => i < p + 1⟩ w2 ⟨S', G.β, G.τ⟩ s v) → (s.lt p = true → s.lt (p + 1) = true) →
                  ∃ v, (a.put (some t3') (.agg cs.toArray)).tmps[t]? = some v ∧ (∀ y ∈ c', y.1.lt (p + 1) = true) ∧ s.lt (p + 1) = true ∧ if condB (upd ρ p (.agg l)) c' = true then RSV ⟨upd ρ p (.agg l), p + 1, fun i => i < p + 1⟩ w2 ⟨S', G.β, G.τ⟩ s v else v = undef := by
                intro s hst hk hl
                obtain ⟨v, h1, h2, h3, h4⟩ := hs.t t c' s hst
                refine ⟨v, hput v h1, fun y hy => E.lt_mono' (Nat.le_succ p) (h2 y hy), hl h3, ?_⟩
                rw [condB_agree' hag (List.all_eq_true.2 h2)]
                have h4' : if condB ρ c' = true then RSV ⟨ρ, p, fun i => i < p⟩ w G s v else v = undef := h4
                split
                · rename_i hc; rw [if_pos hc] at h4'; exact hk v h4'
                · rename_i hc; rw [if_neg hc] at h4'; exact h4'
              simp only [hvTm] at hts
              split at hts
              · rename_i c0 e ty hst
                split at hts
                · rename_i hbr
                  simp only [Option.some.injEq, Prod.mk.injEq] at hts
                  obtain ⟨rfl, rfl⟩ := hts
                  refine keep _ hst (fun v hv => ?_) (fun h => E.lt_mono' (Nat.le_succ p) h)
                  obtain ⟨k1, k2, k3⟩ := hv
                  have hde : den (upd ρ p (.agg l)) e = den ρ e := den_agree hag k1
                  exact ⟨E.lt_mono' (Nat.le_succ p) k1, by show Rep w2 S' v (den (upd ρ p (.agg l)) e); rw [hde]; exact rep_bare hbr k3 k2, by show Has ty (den (upd ρ p (.agg l)) e); rw [hde]; exact k3⟩
                · cases hts
              · rename_i c0 id' off hst
                simp only [Option.some.injEq, Prod.mk.injEq] at hts
                obtain ⟨rfl, rfl⟩ := hts
                exact keep _ hst (fun v hv => ⟨Nat.lt_succ_of_lt hv.1, hv.2⟩) (fun h => h)
              · rename_i c0 ty hst
                simp only [Option.some.injEq, Prod.mk.injEq] at hts
                obtain ⟨rfl, rfl⟩ := hts
                exact keep _ hst (fun v hv => hv) (fun h => h)
              · cases hts
        · cases h
      · cases h
    · cases h
  · cases h
end
end Go.Eng
