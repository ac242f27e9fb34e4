/-
  A function's contract out of its body's condition.
-/
import Derived.Test.YtjpkeliliahjoaaEngR
namespace Go.Eng
open Go Go.RowKit

/-- A result's cells, before they are typed. -/
def resComp (P : Program) (σ : St) : ResultVar → Option (Bool × List SC)
  | .tmp t => match σ.tm t with
    | some ([], .one c) => if c.scalar then some (false, [c]) else none
    | some ([], .agg l) => some (true, l)
    | _ => none
  | .cell t T => match σ.tm t with
    | some ([], .one (.adr id 0)) => match σ.hp id with
      | some (_, cs) => if aggT P T then (if sizeT P T = some cs.length then some (true, cs) else none)
          else (match cs with | [c] => if (P.underlying T).isSome then some (false, [c]) else none | _ => none)
      | none => none
    | _ => none

def retComp (σ : St) (r : Bool × List RCell) (c : Bool × List SC) : Option (E × OwnL) :=
  if r.1 = c.1 then match retCells σ r.2 c.2 with
    | some (es, l) => if r.1 then some (.un .agg (.ofL es), l) else match es with | [e] => some (e, l) | _ => none
    | none => none
  else none
def retComps (P : Program) (σ : St) : List (Bool × List RCell) → List ResultVar → Option (List E × OwnL)
  | [], [] => some ([], [])
  | r :: rs, x :: xs => match (resComp P σ x).bind (retComp σ r), retComps P σ rs xs with
    | some (e, l), some (es, ls) => some (e :: es, l ++ ls)
    | _, _ => none
  | _, _ => none

def retVC (P : Program) (sig : Sig) (fn : Func) (σ : St) : VC :=
  match retComps P σ sig.res fn.results.toList with
  | some (es, l) => if ownOkB l then (match sig.res, es with | [_], [e] => .ret e | _, es => .ret (.un .tup (.ofL es))) else .stuck 10
  | none => .stuck 11

/-- How one result is read when a body ends, and how results make one value. -/
def readRes (a : Act) : ResultVar → Sem Value
  | .tmp t => pure (a.tmps.getD t undef)
  | .cell p t => do loadVar t (← asAddr (a.tmps.getD p undef))
def resVal : List Value → Value
  | [v] => v
  | vs => .tuple vs.toArray

/-- The state in which a body begins: the arguments are the first variables. -/
def St.start (ps : List Ty) : St := ⟨fun t => match ps[t]? with | some ty => some ([], .one (.dat (.var t) ty)) | none => none, fun _ => none, fun _ => none⟩

section
variable {P : Program} {C : Cx} {w w0 : World} {S0 : Base} {G : Gh} {σ : St} {a : Act} {n : Nat}

theorem retComp_ok {L : OwnL} (hm : SimM w0 S0 C G σ w) (hn : (L.map (·.1)).Nodup) {r : Bool × List RCell} {c : Bool × List SC} {e : E} {l : OwnL} {v : Value} (h : retComp σ r c = some (e, l)) (hr : RComp C w G c v) (hL : ∀ x ∈ l, x ∈ L) :
    CompOk w 0 G.S (τOf G L) r v (den C.ρ e) := by
  unfold retComp at h
  split at h
  · rename_i hrc
    split at h
    · rename_i es l' hcs
      unfold RComp at hr
      unfold CompOk
      cases hr1 : r.1 with
      | true =>
        rw [← hrc, hr1] at hr
        simp only [hr1, if_true] at hr h ⊢
        injection h with h; simp only [Prod.mk.injEq] at h; obtain ⟨rfl, rfl⟩ := h
        obtain ⟨vs, rfl, hvs⟩ := hr
        obtain ⟨k1, k2, k3⟩ := retCells_ok hm hn hcs hvs hL
        refine ⟨vs, es.map (den C.ρ), rfl, by simp only [den, den_ofL, U.den, D.toL], k2, by simp [k1], fun i x u y hx hu hy => ?_⟩
        simp only [List.getElem?_map, Option.map_eq_some_iff] at hy
        obtain ⟨e, he, rfl⟩ := hy
        exact k3 i x u e hx hu he
      | false =>
        rw [← hrc, hr1] at hr
        simp only [hr1, Bool.false_eq_true, if_false] at hr h ⊢
        split at h
        · rename_i e0
          injection h with h; simp only [Prod.mk.injEq] at h; obtain ⟨rfl, rfl⟩ := h
          obtain ⟨c0, hc0, hc1⟩ := hr
          rw [hc0] at hcs
          obtain ⟨k1, k2, k3⟩ := retCells_ok hm hn hcs (vs := [v]) ⟨rfl, fun i c u hi hu => by
            cases i with
            | zero => simp at hi hu; subst hi; subst hu; exact hc1
            | succ i => simp at hi⟩ hL
          obtain ⟨x, hx⟩ := List.length_eq_one_iff.1 k1.symm
          exact ⟨x, hx, k3 0 x v e0 (by rw [hx]; rfl) rfl rfl⟩
        · cases h
    · cases h
  · cases h

theorem run_resComp {x : ResultVar} {c : Bool × List SC} (hs : Sim n w0 S0 C G σ a w) (h : resComp P σ x = some c) :
    ∃ v, (readRes a x).run P w = .ok v w ∧ RComp C w G c v := by
  unfold resComp at h
  split at h
  · rename_i t
    split at h
    · rename_i c' ht
      split at h
      · injection h with h; subst h
        obtain ⟨v, h1, _, _, h2⟩ := hs.t t _ _ ht
        simp only [condB, List.all_nil, if_true] at h2
        refine ⟨v, by simp [readRes, h1], ?_⟩
        unfold RComp
        simp only [Bool.false_eq_true, if_false]
        exact ⟨_, rfl, h2⟩
      · cases h
    · rename_i l ht
      injection h with h; subst h
      obtain ⟨v, h1, _, _, h2⟩ := hs.t t _ _ ht
      simp only [condB, List.all_nil, if_true] at h2
      refine ⟨v, by simp [readRes, h1], ?_⟩
      unfold RComp
      simp only [if_true]
      exact h2
    · cases h
  · rename_i t T
    split at h
    · rename_i id ht
      obtain ⟨v, h1, _, _, h2⟩ := hs.t t _ _ ht
      simp only [condB, List.all_nil, if_true] at h2
      obtain ⟨_, rfl⟩ := h2
      split at h
      · rename_i ro cs hid
        obtain ⟨_, _, ⟨vs, T0, hg, hr⟩, _⟩ := hs.m.box _ _ _ hid
        have hcell : ∀ j, w.cell? ⟨G.β id, j, none⟩ = vs[j]? := by intro j; rw [cell_of_row w _ j _ T0 _ hg]; simp
        have hload : ∀ {u : Value}, (Instr.loadAt T (.pointer (some ⟨G.β id, 0, none⟩))).run P w = .ok u w → (do loadVar T (← asAddr (a.tmps.getD t undef)) : Sem Value).run P w = .ok u w := by
          intro u hu
          have e1 : a.tmps.getD t undef = .pointer (some ⟨G.β id, 0, none⟩) := by simp [h1]
          rw [e1]
          simpa [Instr.loadAt, Instr.sureAddr, asAddr] using hu
        split at h
        · rename_i ha
          split at h
          · rename_i hsz
            injection h with h; subst h
            refine ⟨.agg vs.toArray, hload (run_load_cells hsz ha hr.1 (fun j v hv => by rw [Nat.zero_add, hcell]; exact hv)), ?_⟩
            unfold RComp
            simp only [if_true]
            exact ⟨vs, rfl, hr⟩
          · cases h
        · rename_i ha
          split at h
          · rename_i c'
            split at h
            · rename_i hsome
              injection h with h; subst h
              obtain ⟨u, rfl⟩ : ∃ u, vs = [u] := List.length_eq_one_iff.1 hr.1
              refine ⟨u, hload (run_load_one (by simpa using ha) hsome (by rw [hcell]; rfl)), ?_⟩
              unfold RComp
              simp only [Bool.false_eq_true, if_false]
              exact ⟨_, rfl, hr.2 0 _ u rfl rfl⟩
            · cases h
          · cases h
      · cases h
    · cases h

theorem run_retComps {L : OwnL} (hs : Sim n w0 S0 C G σ a w) (hn : (L.map (·.1)).Nodup) : ∀ {rs : List (Bool × List RCell)} {xs : List ResultVar} {es : List E} {l : OwnL}, retComps P σ rs xs = some (es, l) → (∀ x ∈ l, x ∈ L) →
    ∃ vs : List Value, (xs.mapM (m := Sem) (readRes a)).run P w = .ok vs w ∧ vs.length = rs.length ∧ es.length = rs.length ∧ xs.length = rs.length ∧
      ∀ (i : Nat) r v e, rs[i]? = some r → vs[i]? = some v → es[i]? = some e → CompOk w 0 G.S (τOf G L) r v (den C.ρ e)
  | [], [], es, l, h, _ => by
    simp only [retComps, Option.some.injEq, Prod.mk.injEq] at h
    obtain ⟨rfl, rfl⟩ := h
    exact ⟨[], by simp, rfl, rfl, rfl, by intro i r v e hi; simp at hi⟩
  | [], _ :: _, _, _, h, _ => by cases h
  | _ :: _, [], _, _, h, _ => by cases h
  | r :: rs, x :: xs, es, l, h, hL => by
    simp only [retComps] at h
    split at h
    · rename_i e l1 es' l2 h1 h2
      injection h with h; simp only [Prod.mk.injEq] at h; obtain ⟨rfl, rfl⟩ := h
      cases hc : resComp P σ x with
      | none => simp [hc] at h1
      | some c =>
        simp only [hc, Option.bind_some] at h1
        obtain ⟨v, k1, k2⟩ := run_resComp hs hc
        obtain ⟨vs, m1, m2, m3, m4, m5⟩ := run_retComps hs hn h2 (fun x hx => hL x (by simp [hx]))
        refine ⟨v :: vs, ?_, by simp [m2], by simp [m3], by simp [m4], fun i r' v' e' hi hv he => ?_⟩
        · rw [List.mapM_cons, Sem.run_bind, k1, Result.andThen_ok, Sem.run_bind, m1]; rfl
        · cases i with
          | zero => simp at hi hv he; subst hi; subst hv; subst he; exact retComp_ok hs.m hn h1 k2 (fun x hx => hL x (by simp [hx]))
          | succ i => exact m5 i r' v' e' (by simpa using hi) (by simpa using hv) (by simpa using he)
    · cases h

theorem run_results {fn : Func} {vs : List Value} (h : (fn.results.toList.mapM (m := Sem) (readRes a)).run P w = .ok vs w) :
    (results fn a.tmps).run P w = .ok (resVal vs) w := by
  have h0 : results fn a.tmps = (do
      let vs ← fn.results.mapM (readRes a)
      pure (if h : vs.size = 1 then vs[0] else .tuple vs)) := by
    unfold results
    rfl
  rw [h0]
  have h1 : (fn.results.mapM (m := Sem) (readRes a)).run P w = .ok vs.toArray w := by
    have e1 := Array.mapM_eq_mapM_toList (m := Sem) (f := readRes a) (xs := fn.results)
    rw [e1, Sem.run_map, h]; rfl
  rw [Sem.run_bind, h1, Result.andThen_ok]
  match vs with
  | [] => rfl
  | [v] => rfl
  | _ :: _ :: _ => rfl

theorem own_retComps : ∀ {rs : List (Bool × List RCell)} {xs : List ResultVar} {es : List E} {l : OwnL}, retComps P σ rs xs = some (es, l) → ownIdx rs = l.map (·.1)
  | [], xs, es, l, h => by
    cases xs <;> simp [retComps] at h
    obtain ⟨rfl, rfl⟩ := h; rfl
  | _ :: _, [], _, _, h => by cases h
  | r :: rs, x :: xs, es, l, h => by
    simp only [retComps] at h
    split at h
    · rename_i q1 q2
      injection h with h; simp only [Prod.mk.injEq] at h; rw [← h.2, List.map_append, ← own_retComps q2]
      have : ownIdx (r :: rs) = (r.2.filterMap fun x => x.2.map (·.1)) ++ ownIdx rs := by simp [ownIdx]
      rw [this]
      congr 1
      cases hrc : resComp P σ x with
      | none => simp [hrc] at q1
      | some c =>
        simp only [hrc, Option.bind_some] at q1
        unfold retComp at q1
        split at q1
        · split at q1
          · rename_i hcs
            split at q1
            · injection q1 with q1; simp only [Prod.mk.injEq] at q1; rw [← q1.2]; exact own_retCells hcs
            · split at q1
              · injection q1 with q1; simp only [Prod.mk.injEq] at q1; rw [← q1.2]; exact own_retCells hcs
              · cases q1
          · cases q1
        · cases q1
    · cases h

theorem retComps_live : ∀ {rs : List (Bool × List RCell)} {xs : List ResultVar} {es : List E} {l : OwnL}, retComps P σ rs xs = some (es, l) → ∀ j g, (j, some g) ∈ l → ∃ z, σ.live g = some z
  | [], xs, es, l, h, j, g, hm => by cases xs <;> simp [retComps] at h; obtain ⟨rfl, rfl⟩ := h; simp at hm
  | r :: rs, [], es, l, h, j, g, hm => by cases h
  | r :: rs, x :: xs, es, l, h, j, g, hm => by
    simp only [retComps] at h
    split at h
    · rename_i q1 q2
      injection h with h; simp only [Prod.mk.injEq] at h; rw [← h.2] at hm
      rcases List.mem_append.1 hm with hm | hm
      · cases hrc : resComp P σ x with
        | none => simp [hrc] at q1
        | some c =>
          simp only [hrc, Option.bind_some] at q1
          unfold retComp at q1
          split at q1
          · split at q1
            · rename_i hcs
              split at q1
              · injection q1 with q1; simp only [Prod.mk.injEq] at q1; rw [← q1.2] at hm; exact retCells_live hcs hm
              · split at q1
                · injection q1 with q1; simp only [Prod.mk.injEq] at q1; rw [← q1.2] at hm; exact retCells_live hcs hm
                · cases q1
            · cases q1
          · cases q1
      · exact retComps_live q2 j g hm
    · cases h
/-- What is left of a function: its body's condition, at whatever its arguments read as. -/
theorem pureFn_of_vc {f : Nat} {fn : Func} {c : Code} {sig : Sig} {Pre0 : List D → Prop} {Φ0 : List D → D} (cs : Tbl) (fw wl : FTbl) (Φ : Nat → List D → D) (Pre : Nat → List D → Prop) (anns : List (Nat × Ann)) (v : VC)
    (hf : P.funcs[f]? = some fn) (hb : fn.body = some c) (hname : (fn.name == "runtime.NumGoroutine") = false) (hmix : P.follows .mixedOrders = true)
    (hps : sig.params.length ≤ fn.ntmps) (hob : sig.ob = none)
    (hcon : ∀ k sig, lk cs.l k = some sig → PureFn P k sig (Pre k) (Φ k)) (hcf : cs.fr = 0 ∧ noFr sig.res = true ∨ cs.fr = 1) (hfw : ∀ k y, lk fw k = some y → FreshFn P k y.1 y.2 (fun _ => True) (Φ k)) (hwl : ∀ k y, lk wl k = some y → WildFn P k y.1 y.2)
    (hv : vc ⟨P, cs, fn.ntmps, anns, fw, wl⟩ c (fun ex σ _ _ => match ex with | .exit _ => .stuck 20 | _ => retVC P sig fn σ) (St.start sig.params) sig.params.length 0 = v)
    (hc : ∀ ds, HasL (.ofL sig.params) ds → Pre0 ds → v.holds Φ Pre (fun d => d = Φ0 ds) (fun i => ds.getD i .top) []) : PureFn P f sig Pre0 Φ0 where
  enter args w := by
    unfold callFunc
    have hbs : fn.body.isNone = false := by rw [hb]; rfl
    have hname' : fn.name ≠ "runtime.NumGoroutine" := by simpa using hname
    simp [hf, hb, hname']
  ocalls ob hob' := by rw [hob] at hob'; cases hob'
  pcalls ob hob' := by rw [hob] at hob'; cases hob'
  calls _ w S vs ds hSlt hlen hrep hty hpre := by
    have hdl : ds.length = sig.params.length := by rw [hasL_len hty, Ty.toL_ofL]
    refine calls_of_wp hf hb ?_
    have hcond := hc ds hty hpre
    rw [← hv] at hcond
    refine vc_sound (w0 := w) (S0 := ⟨S, fun _ => False, fun _ => none, cs.fr = 1, False⟩) (N := ⟨P, cs, fn.ntmps, anns, fw, wl⟩) hmix hcon (fun _ _ _ _ _ _ b o hb => by
      rintro (h | h)
      · exact absurd (hSlt b o hb) (by show ¬ b < w.heap.size; have : w.heap.size ≤ b := h; omega)
      · exact h) ⟨fun h => h, fun h => h.elim⟩ hfw hwl (fun h => by have : cs.fr = 2 := h; omega) c _ _ _ 0 _ [] _ hcond rfl (fun i b h => (by cases h)) ?_ _ w ⟨S, fun _ => 0, fun _ => .nilIface⟩ ?_
    · intro ex σ' p' d' ρ' stk' a' w' G' _ _ _ _ hk hs
      have fin : (retVC P sig fn σ').holds Φ Pre (fun d => d = Φ0 ds) ρ' stk' → a'.defers = [] ∧ ∃ v, (results fn a'.tmps).run P w' = .ok v w' ∧ ∃ v0 S' τ, Ending.returned v = .returned v0 ∧ Below w.heap.size w w' ∧ (∀ b o, S b o → S' b o) ∧ (∀ b o, S' b o → b < w'.heap.size) ∧ (∀ b o, S' b o → S b o ∨ w.heap.size ≤ b) ∧
          ResOk w' 0 S' τ sig.res v0 (Φ0 ds) ∧ (∀ j b, j ∈ ownIdx sig.res → (τ j).ownBlock = some b → w.heap.size ≤ b) ∧ (∀ j k b, j ∈ ownIdx sig.res → k ∈ ownIdx sig.res → (τ j).ownBlock = some b → (τ k).ownBlock = some b → j = k) ∧ ∀ j, j ∈ ownIdx sig.res → frN j = true → FrV (fun b => w.heap.size ≤ b) w' S' (τ j) := by
        intro hk
        refine ⟨hs.defers, ?_⟩
        unfold retVC at hk
        split at hk
        · rename_i es l hret
          split at hk
          · rename_i hok
            have hok0 := hok
            unfold ownOkB at hok
            simp only [Bool.and_eq_true, decide_eq_true_eq] at hok
            obtain ⟨hnt, hnj⟩ := hok
            have hlive := retComps_live hret
            obtain ⟨us, h1, h2, h3, h4, h5⟩ := run_retComps (L := l) hs hnj hret (fun x hx => hx)
            refine ⟨_, run_results h1, _, G'.S, τOf G' l, rfl, hs.m.below.to (fun _ h => h), hs.m.foot0, hs.m.footlt, fun b o hb => (hs.m.footnew b o hb).imp (fun h => h) (fun h => h.elim (fun h => h) (fun h => h.elim)), ?_, ?_, ?_, ?_⟩
            · split at hk
              · rename_i r e hres
                have hd : den ρ' e = Φ0 ds := hk
                rw [hres] at h2 h5 ⊢
                obtain ⟨u, rfl⟩ : ∃ u, us = [u] := List.length_eq_one_iff.1 h2
                exact .inl ⟨r, rfl, by rw [← hd]; exact h5 0 r u e rfl rfl rfl⟩
              · rename_i es1 _ es2 hne
                have hd : den ρ' (.un .tup (.ofL _)) = Φ0 ds := hk
                have hl1 : sig.res.length ≠ 1 := by
                  intro h
                  obtain ⟨r, hr⟩ := List.length_eq_one_iff.1 h
                  obtain ⟨e, he⟩ := List.length_eq_one_iff.1 (h3.trans h)
                  exact hne r e hr he
                have hmt : resVal us = .tuple us.toArray := by
                  match us, h2 with
                  | [], _ => rfl
                  | [u], h2 => exact absurd h2.symm hl1
                  | _ :: _ :: _, _ => rfl
                rw [hmt]
                refine .inr ⟨hl1, us, es1.map (den ρ'), rfl, by rw [← hd]; simp only [den, den_ofL, U.den, D.toL], h2, by simp [h3], fun i r u y hr hu hy => ?_⟩
                simp only [List.getElem?_map, Option.map_eq_some_iff] at hy
                obtain ⟨e, he, rfl⟩ := hy
                exact h5 i r u e hr hu he
            · intro j b hj hb
              rw [own_retComps hret] at hj
              obtain ⟨g, hgl, hgb⟩ := own_tag hok0 hj hb
              obtain ⟨z, hz⟩ := hlive _ _ hgl
              exact (hs.m.ownnew g z b hz hgb).elim (fun h => h) (fun h => h.elim)
            · intro j k b hj hk' hbj hbk
              rw [own_retComps hret] at hj hk'
              exact own_apart hs.m hok0 hlive hj hk' hbj hbk
            · intro j hj hfj
              rcases hcf with hcf | hcf
              · have := List.all_eq_true.1 hcf.2 j hj
                rw [hfj] at this; cases this
              · unfold τOf
                split
                · exact (hs.m.fresh hcf _).weak fun b hb => hb.elim (fun h => h) (fun h => h.elim)
                · intro a n cap hv
                  exact .inl (by cases hv; rfl)
          · exact hk.elim
        · exact hk.elim
      cases ex with
      | normal => exact fin hk
      | ret => exact fin hk
      | exit i => exact hk.elim
    · refine ⟨⟨BelowX.refl _ _, fun _ _ h => h, fun _ _ _ => rfl, fun i b h => (by cases h), fun i b h => (by cases h), hSlt, fun _ _ h => .inl h, ?_, ?_, ?_, ?_, fun g x b hx => (by cases hx), ?_, ?_, fun _ _ => FrV.nilIface, fun h => h.elim⟩, ?_, ?_, rfl⟩
      · intro id x hx; cases hx
      · intro id ro cs hx; cases hx
      · intro i j x y hx; cases hx
      · intro g e T t hx; cases hx
      · intro g g' x y b hx; cases hx
      · intro g id x y b hx; cases hx
      · intro t c s hts
        simp only [St.start] at hts
        split at hts
        · rename_i ty hty'
          injection hts with hts; simp only [Prod.mk.injEq] at hts; obtain ⟨rfl, rfl⟩ := hts
          have htl : t < sig.params.length := (List.getElem?_eq_some_iff.1 hty').1
          have hdt : ds[t]? = some (ds[t]'(by omega)) := List.getElem?_eq_getElem _
          have hvt : vs[t]? = some (vs[t]'(by omega)) := List.getElem?_eq_getElem _
          obtain ⟨x, hx, hxh⟩ := hasL_get hty t ty (by rw [Ty.toL_ofL]; exact hty')
          rw [hdt] at hx; injection hx with hx
          have hden : den (fun i => ds.getD i .top) (.var t) = ds[t]'(by omega) := by show ds.getD t .top = _; exact toL_getD hdt
          refine ⟨vs[t]'(by omega), ?_, by simp, by simpa [SV.lt, SC.lt, E.lt] using htl, ?_⟩
          · rw [Array.getElem?_append_left (by simp; omega)]; simp [hvt]
          · simp only [condB, List.all_nil, if_true]
            refine ⟨by simpa [E.lt] using htl, ?_, ?_⟩
            · show Rep w S _ (den (fun i => ds.getD i .top) (.var t))
              rw [hden]; exact hrep t _ _ hvt hdt
            · show Has ty (den (fun i => ds.getD i .top) (.var t))
              rw [hden, hx]; exact hxh
        · cases hts
      · simp; omega
end
end Go.Eng
