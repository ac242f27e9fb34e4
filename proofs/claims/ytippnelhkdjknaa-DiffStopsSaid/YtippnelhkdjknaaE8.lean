/-
  A run of the code in plain data, and that it is sound (8).
-/
import Derived.Test.YtippnelhkdjknaaE7
import Derived.ProofKit
import Derived.OpenShut
/- A function's contract out of its body's condition. -/
namespace Go.Eng
open Go Go.RowKit

/-- A result's cells, before they are typed. -/
def resComp (P : Program) (σ : St) : ResultVar → Option (Bool × List SC)
  | .tmp t => match σ.tm t with
    | some ([], .one c) => if c.scalar then some (false, [c]) else none
    | some ([], .agg l) => some (true, l)
    | _ => none
  | .cell t T => match σ.tm t with
    | some ([], .one (.adr id 0)) => match σ.hp id with
      | some (_, cs) => if (mapOf cs).isSome then none else if aggT P T then (if sizeT P T = some cs.length then some (true, cs) else none)
          else (match cs with | [c] => if (P.underlying T).isSome then some (false, [c]) else none | _ => none)
      | none => none
    | _ => none

def retComp (σ : St) (r : Bool × List RCell) (c : Bool × List SC) : Option (E × OwnL) :=
  if r.1 = c.1 then match retCells σ r.2 c.2 with
    | some (es, l) => if r.1 then some (.un .agg (.ofL es), l) else match es with | [e] => some (e, l) | _ => none
    | none => none
  else none
def retComps (P : Program) (σ : St) : List (Bool × List RCell) → List ResultVar → Option (List E × OwnL)
  | [], [] => some ([], [])
  | r :: rs, x :: xs => match (resComp P σ x).bind (retComp σ r), retComps P σ rs xs with
    | some (e, l), some (es, ls) => some (e :: es, l ++ ls)
    | _, _ => none
  | _, _ => none

def retVC (P : Program) (sig : Sig) (fn : Func) (σ : St) : VC :=
  match retComps P σ sig.res fn.results.toList with
  | some (es, l) => if ownOkB l then (match sig.res, es with | [_], [e] => .ret e | _, es => .ret (.un .tup (.ofL es))) else .stuck 10
  | none => .stuck 11

/-- How one result is read when a body ends, and how results make one value. -/
def readRes (a : Act) : ResultVar → Sem Value
  | .tmp t => pure (a.tmps.getD t undef)
  | .cell p t => do loadVar t (← asAddr (a.tmps.getD p undef))
def resVal : List Value → Value
  | [v] => v
  | vs => .tuple vs.toArray

/-- The state in which a body begins: the arguments are the first variables. -/
def St.start (ps : List Ty) : St := ⟨fun t => match ps[t]? with | some ty => some ([], .one (.dat (.var t) ty)) | none => none, fun _ => none, fun _ => none⟩

section
variable {P : Program} {C : Cx} {w w0 : World} {S0 : Base} {G : Gh} {σ : St} {a : Act} {n : Nat}

theorem retComp_ok {L : OwnL} (hm : SimM w0 S0 C G σ w) (hn : (L.map (·.1)).Nodup) {r : Bool × List RCell} {c : Bool × List SC} {e : E} {l : OwnL} {v : Value} (h : retComp σ r c = some (e, l)) (hr : RComp C w G c v) (hL : ∀ x ∈ l, x ∈ L) :
    CompOk w 0 G.S (τOf G L) r v (den C.ρ e) := by
  unfold retComp at h
  split at h
  · rename_i hrc
    split at h
    · rename_i es l' hcs
      unfold RComp at hr
      unfold CompOk
      cases hr1 : r.1 with
      | true =>
        rw [← hrc, hr1] at hr
        simp only [hr1, if_true] at hr h ⊢
        injection h with h; simp only [Prod.mk.injEq] at h; obtain ⟨rfl, rfl⟩ := h
        obtain ⟨vs, rfl, hvs⟩ := hr
        obtain ⟨k1, k2, k3⟩ := retCells_ok hm hn hcs hvs hL
        refine ⟨vs, es.map (den C.ρ), rfl, by simp only [den, den_ofL, U.den, D.toL], k2, by simp [k1], fun i x u y hx hu hy => ?_⟩
        simp only [List.getElem?_map, Option.map_eq_some_iff] at hy
        obtain ⟨e, he, rfl⟩ := hy
        exact k3 i x u e hx hu he
      | false =>
        rw [← hrc, hr1] at hr
        simp only [hr1, Bool.false_eq_true, if_false] at hr h ⊢
        split at h
        · rename_i e0
          injection h with h; simp only [Prod.mk.injEq] at h; obtain ⟨rfl, rfl⟩ := h
          obtain ⟨c0, hc0, hc1⟩ := hr
          rw [hc0] at hcs
          obtain ⟨k1, k2, k3⟩ := retCells_ok hm hn hcs (vs := [v]) ⟨rfl, fun i c u hi hu => by
            cases i with
            | zero => simp at hi hu; subst hi; subst hu; exact hc1
            | succ i => simp at hi⟩ hL
          obtain ⟨x, hx⟩ := List.length_eq_one_iff.1 k1.symm
          exact ⟨x, hx, k3 0 x v e0 (by rw [hx]; rfl) rfl rfl⟩
        · cases h
    · cases h
  · cases h

theorem run_resComp {x : ResultVar} {c : Bool × List SC} (hs : Sim n w0 S0 C G σ a w) (h : resComp P σ x = some c) :
    ∃ v, (readRes a x).run P w = .ok v w ∧ RComp C w G c v := by
  unfold resComp at h
  split at h
  · rename_i t
    split at h
    · rename_i c' ht
      split at h
      · injection h with h; subst h
        obtain ⟨v, h1, _, _, h2⟩ := hs.t t _ _ ht
        simp only [condB, List.all_nil, if_true] at h2
        refine ⟨v, by simp [readRes, h1], ?_⟩
        unfold RComp
        simp only [Bool.false_eq_true, if_false]
        exact ⟨_, rfl, h2⟩
      · cases h
    · rename_i l ht
      injection h with h; subst h
      obtain ⟨v, h1, _, _, h2⟩ := hs.t t _ _ ht
      simp only [condB, List.all_nil, if_true] at h2
      refine ⟨v, by simp [readRes, h1], ?_⟩
      unfold RComp
      simp only [if_true]
      exact h2
    · cases h
  · rename_i t T
    split at h
    · rename_i id ht
      obtain ⟨v, h1, _, _, h2⟩ := hs.t t _ _ ht
      simp only [condB, List.all_nil, if_true] at h2
      obtain ⟨_, rfl⟩ := h2
      split at h
      · rename_i ro cs hid
        obtain ⟨_, _, hblk, _⟩ := hs.m.box _ _ _ hid
        split at h
        · cases h
        rename_i hnm
        obtain ⟨vs, T0, hg, hr⟩ := hblk.cells (by simpa using hnm)
        have hcell : ∀ j, w.cell? ⟨G.β id, j, none⟩ = vs[j]? := by intro j; rw [cell_of_row w _ j _ T0 _ hg]; simp
        have hload : ∀ {u : Value}, (Instr.loadAt T (.pointer (some ⟨G.β id, 0, none⟩))).run P w = .ok u w → (do loadVar T (← asAddr (a.tmps.getD t undef)) : Sem Value).run P w = .ok u w := by
          intro u hu
          have e1 : a.tmps.getD t undef = .pointer (some ⟨G.β id, 0, none⟩) := by simp [h1]
          rw [e1]
          simpa [Instr.loadAt, Instr.sureAddr, asAddr] using hu
        split at h
        · rename_i ha
          split at h
          · rename_i hsz
            injection h with h; subst h
            refine ⟨.agg vs.toArray, hload (run_load_cells hsz ha hr.1 (fun j v hv => by rw [Nat.zero_add, hcell]; exact hv)), ?_⟩
            unfold RComp
            simp only [if_true]
            exact ⟨vs, rfl, hr⟩
          · cases h
        · rename_i ha
          split at h
          · rename_i c'
            split at h
            · rename_i hsome
              injection h with h; subst h
              obtain ⟨u, rfl⟩ : ∃ u, vs = [u] := List.length_eq_one_iff.1 hr.1
              refine ⟨u, hload (run_load_one (by simpa using ha) hsome (by rw [hcell]; rfl)), ?_⟩
              unfold RComp
              simp only [Bool.false_eq_true, if_false]
              exact ⟨_, rfl, hr.2 0 _ u rfl rfl⟩
            · cases h
          · cases h
      · cases h
    · cases h

theorem run_retComps {L : OwnL} (hs : Sim n w0 S0 C G σ a w) (hn : (L.map (·.1)).Nodup) : ∀ {rs : List (Bool × List RCell)} {xs : List ResultVar} {es : List E} {l : OwnL}, retComps P σ rs xs = some (es, l) → (∀ x ∈ l, x ∈ L) →
    ∃ vs : List Value, (xs.mapM (m := Sem) (readRes a)).run P w = .ok vs w ∧ vs.length = rs.length ∧ es.length = rs.length ∧ xs.length = rs.length ∧
      ∀ (i : Nat) r v e, rs[i]? = some r → vs[i]? = some v → es[i]? = some e → CompOk w 0 G.S (τOf G L) r v (den C.ρ e)
  | [], [], es, l, h, _ => by
    simp only [retComps, Option.some.injEq, Prod.mk.injEq] at h
    obtain ⟨rfl, rfl⟩ := h
    exact ⟨[], by simp, rfl, rfl, rfl, by intro i r v e hi; simp at hi⟩
  | [], _ :: _, _, _, h, _ => by cases h
  | _ :: _, [], _, _, h, _ => by cases h
  | r :: rs, x :: xs, es, l, h, hL => by
    simp only [retComps] at h
    split at h
    · rename_i e l1 es' l2 h1 h2
      injection h with h; simp only [Prod.mk.injEq] at h; obtain ⟨rfl, rfl⟩ := h
      cases hc : resComp P σ x with
      | none => simp [hc] at h1
      | some c =>
        simp only [hc, Option.bind_some] at h1
        obtain ⟨v, k1, k2⟩ := run_resComp hs hc
        obtain ⟨vs, m1, m2, m3, m4, m5⟩ := run_retComps hs hn h2 (fun x hx => hL x (by simp [hx]))
        refine ⟨v :: vs, ?_, by simp [m2], by simp [m3], by simp [m4], fun i r' v' e' hi hv he => ?_⟩
        · rw [List.mapM_cons, Sem.run_bind, k1, Result.andThen_ok, Sem.run_bind, m1]; rfl
        · cases i with
          | zero => simp at hi hv he; subst hi; subst hv; subst he; exact retComp_ok hs.m hn h1 k2 (fun x hx => hL x (by simp [hx]))
          | succ i => exact m5 i r' v' e' (by simpa using hi) (by simpa using hv) (by simpa using he)
    · cases h

theorem run_results {fn : Func} {vs : List Value} (h : (fn.results.toList.mapM (m := Sem) (readRes a)).run P w = .ok vs w) :
    (results fn a.tmps).run P w = .ok (resVal vs) w := by
  have h0 : results fn a.tmps = (do
      let vs ← fn.results.mapM (readRes a)
      pure (if h : vs.size = 1 then vs[0] else .tuple vs)) := by
    unfold results
    rfl
  rw [h0]
  have h1 : (fn.results.mapM (m := Sem) (readRes a)).run P w = .ok vs.toArray w := by
    have e1 := Array.mapM_eq_mapM_toList (m := Sem) (f := readRes a) (xs := fn.results)
    rw [e1, Sem.run_map, h]; rfl
  rw [Sem.run_bind, h1, Result.andThen_ok]
  match vs with
  | [] => rfl
  | [v] => rfl
  | _ :: _ :: _ => rfl

theorem own_retComps : ∀ {rs : List (Bool × List RCell)} {xs : List ResultVar} {es : List E} {l : OwnL}, retComps P σ rs xs = some (es, l) → ownIdx rs = l.map (·.1)
  | [], xs, es, l, h => by
    cases xs <;> simp [retComps] at h
    obtain ⟨rfl, rfl⟩ := h; rfl
  | _ :: _, [], _, _, h => by cases h
  | r :: rs, x :: xs, es, l, h => by
    simp only [retComps] at h
    split at h
    · rename_i q1 q2
      injection h with h; simp only [Prod.mk.injEq] at h; rw [← h.2, List.map_append, ← own_retComps q2]
      have : ownIdx (r :: rs) = (r.2.filterMap fun x => x.2.map (·.1)) ++ ownIdx rs := by simp [ownIdx]
      rw [this]
      congr 1
      cases hrc : resComp P σ x with
      | none => simp [hrc] at q1
      | some c =>
        simp only [hrc, Option.bind_some] at q1
        unfold retComp at q1
        split at q1
        · split at q1
          · rename_i hcs
            split at q1
            · injection q1 with q1; simp only [Prod.mk.injEq] at q1; rw [← q1.2]; exact own_retCells hcs
            · split at q1
              · injection q1 with q1; simp only [Prod.mk.injEq] at q1; rw [← q1.2]; exact own_retCells hcs
              · cases q1
          · cases q1
        · cases q1
    · cases h

theorem retComps_live : ∀ {rs : List (Bool × List RCell)} {xs : List ResultVar} {es : List E} {l : OwnL}, retComps P σ rs xs = some (es, l) → ∀ j g, (j, some g) ∈ l → ∃ z, σ.live g = some z
  | [], xs, es, l, h, j, g, hm => by cases xs <;> simp [retComps] at h; obtain ⟨rfl, rfl⟩ := h; simp at hm
  | r :: rs, [], es, l, h, j, g, hm => by cases h
  | r :: rs, x :: xs, es, l, h, j, g, hm => by
    simp only [retComps] at h
    split at h
    · rename_i q1 q2
      injection h with h; simp only [Prod.mk.injEq] at h; rw [← h.2] at hm
      rcases List.mem_append.1 hm with hm | hm
      · cases hrc : resComp P σ x with
        | none => simp [hrc] at q1
        | some c =>
          simp only [hrc, Option.bind_some] at q1
          unfold retComp at q1
          split at q1
          · split at q1
            · rename_i hcs
              split at q1
              · injection q1 with q1; simp only [Prod.mk.injEq] at q1; rw [← q1.2] at hm; exact retCells_live hcs hm
              · split at q1
                · injection q1 with q1; simp only [Prod.mk.injEq] at q1; rw [← q1.2] at hm; exact retCells_live hcs hm
                · cases q1
            · cases q1
          · cases q1
      · exact retComps_live q2 j g hm
    · cases h
/-- What is left of a function: its body's condition, at whatever its arguments read as. -/
theorem pureFn_of_vc {f : Nat} {fn : Func} {c : Code} {sig : Sig} {Pre0 : List D → Prop} {Φ0 : List D → D} (cs : Tbl) (fw wl : FTbl) (Φ : Nat → List D → D) (Pre : Nat → List D → Prop) (anns : List (Nat × Ann)) (v : VC)
    (hf : P.funcs[f]? = some fn) (hb : fn.body = some c) (hname : (fn.name == "runtime.NumGoroutine") = false) (hmix : P.follows .mixedOrders = true)
    (hps : sig.params.length ≤ fn.ntmps) (hob : sig.ob = none) (hmp : cs.mp = [] ∧ cs.et = [])
    (hcon : ∀ k sig, lk cs.l k = some sig → PureFn P k sig (Pre k) (Φ k)) (hcf : cs.fr = 0 ∧ noFr sig.res = true ∨ cs.fr = 1) (hfw : ∀ k y, lk fw k = some y → FreshFn P k y.1 y.2 (fun _ => True) (Φ k)) (hwl : ∀ k y, lk wl k = some y → WildFn P k y.1 y.2)
    (hv : vc ⟨P, cs, fn.ntmps, anns, fw, wl, []⟩ c (fun ex σ _ _ => match ex with | .exit _ => .stuck 20 | _ => retVC P sig fn σ) (St.start sig.params) sig.params.length 0 = v)
    (hc : ∀ ds, HasL (.ofL sig.params) ds → Pre0 ds → v.holds Φ Pre (fun d => d = Φ0 ds) (fun i => ds.getD i .top) []) : PureFn P f sig Pre0 Φ0 where
  enter args w := by
    unfold callFunc
    have hbs : fn.body.isNone = false := by rw [hb]; rfl
    have hname' : fn.name ≠ "runtime.NumGoroutine" := by simpa using hname
    simp [hf, hb, hname']
  ocalls ob hob' := by rw [hob] at hob'; cases hob'
  pcalls ob hob' := by rw [hob] at hob'; cases hob'
  calls _ w S vs ds hSlt hlen hrep hty hpre := by
    have hdl : ds.length = sig.params.length := by rw [hasL_len hty, Ty.toL_ofL]
    refine calls_of_wp hf hb ?_
    have hcond := hc ds hty hpre
    rw [← hv] at hcond
    refine vc_sound (w0 := w) (S0 := ⟨S, fun _ => False, fun _ => none, cs.fr = 1, False, P, []⟩) (N := ⟨P, cs, fn.ntmps, anns, fw, wl, []⟩) hmix hcon (fun _ _ _ _ _ _ b o hb => by
      rintro (h | h)
      · exact absurd (hSlt b o hb) (by show ¬ b < w.heap.size; have : w.heap.size ≤ b := h; omega)
      · exact h) ⟨fun h => h, fun h => h.elim, rfl, fun T kt h => (by rw [show cs.mp = [] from hmp.1] at h; cases h), fun k sg h => (by rw [show cs.et = [] from hmp.2] at h; cases h)⟩ hfw hwl (fun h => by have : cs.fr = 2 := h; omega) rfl c _ _ _ 0 _ [] _ hcond rfl (fun i b h => (by cases h)) ?_ _ w ⟨S, fun _ => 0, fun _ => .nilIface⟩ ?_
    · intro ex σ' p' d' ρ' stk' a' w' G' _ _ _ _ hk hs
      have fin : (retVC P sig fn σ').holds Φ Pre (fun d => d = Φ0 ds) ρ' stk' → a'.defers = [] ∧ ∃ v, (results fn a'.tmps).run P w' = .ok v w' ∧ ∃ v0 S' τ, Ending.returned v = .returned v0 ∧ Below w.heap.size w w' ∧ (∀ b o, S b o → S' b o) ∧ (∀ b o, S' b o → b < w'.heap.size) ∧ (∀ b o, S' b o → S b o ∨ w.heap.size ≤ b) ∧
          ResOk w' 0 S' τ sig.res v0 (Φ0 ds) ∧ (∀ j b, j ∈ ownIdx sig.res → (τ j).ownBlock = some b → w.heap.size ≤ b) ∧ (∀ j k b, j ∈ ownIdx sig.res → k ∈ ownIdx sig.res → (τ j).ownBlock = some b → (τ k).ownBlock = some b → j = k) ∧ ∀ j, j ∈ ownIdx sig.res → frN j = true → FrV (fun b => w.heap.size ≤ b) w' S' (τ j) := by
        intro hk
        refine ⟨hs.defers, ?_⟩
        unfold retVC at hk
        split at hk
        · rename_i es l hret
          split at hk
          · rename_i hok
            have hok0 := hok
            unfold ownOkB at hok
            simp only [Bool.and_eq_true, decide_eq_true_eq] at hok
            obtain ⟨hnt, hnj⟩ := hok
            have hlive := retComps_live hret
            obtain ⟨us, h1, h2, h3, h4, h5⟩ := run_retComps (L := l) hs hnj hret (fun x hx => hx)
            refine ⟨_, run_results h1, _, G'.S, τOf G' l, rfl, hs.m.below.to (fun _ h => h), hs.m.foot0, hs.m.footlt, fun b o hb => (hs.m.footnew b o hb).imp (fun h => h) (fun h => h.elim (fun h => h) (fun h => h.elim)), ?_, ?_, ?_, ?_⟩
            · split at hk
              · rename_i r e hres
                have hd : den ρ' e = Φ0 ds := hk
                rw [hres] at h2 h5 ⊢
                obtain ⟨u, rfl⟩ : ∃ u, us = [u] := List.length_eq_one_iff.1 h2
                exact .inl ⟨r, rfl, by rw [← hd]; exact h5 0 r u e rfl rfl rfl⟩
              · rename_i es1 _ es2 hne
                have hd : den ρ' (.un .tup (.ofL _)) = Φ0 ds := hk
                have hl1 : sig.res.length ≠ 1 := by
                  intro h
                  obtain ⟨r, hr⟩ := List.length_eq_one_iff.1 h
                  obtain ⟨e, he⟩ := List.length_eq_one_iff.1 (h3.trans h)
                  exact hne r e hr he
                have hmt : resVal us = .tuple us.toArray := by
                  match us, h2 with
                  | [], _ => rfl
                  | [u], h2 => exact absurd h2.symm hl1
                  | _ :: _ :: _, _ => rfl
                rw [hmt]
                refine .inr ⟨hl1, us, es1.map (den ρ'), rfl, by rw [← hd]; simp only [den, den_ofL, U.den, D.toL], h2, by simp [h3], fun i r u y hr hu hy => ?_⟩
                simp only [List.getElem?_map, Option.map_eq_some_iff] at hy
                obtain ⟨e, he, rfl⟩ := hy
                exact h5 i r u e hr hu he
            · intro j b hj hb
              rw [own_retComps hret] at hj
              obtain ⟨g, hgl, hgb⟩ := own_tag hok0 hj hb
              obtain ⟨z, hz⟩ := hlive _ _ hgl
              exact (hs.m.ownnew g z b hz hgb).elim (fun h => h) (fun h => h.elim)
            · intro j k b hj hk' hbj hbk
              rw [own_retComps hret] at hj hk'
              exact own_apart hs.m hok0 hlive hj hk' hbj hbk
            · intro j hj hfj
              rcases hcf with hcf | hcf
              · have := List.all_eq_true.1 hcf.2 j hj
                rw [hfj] at this; cases this
              · unfold τOf
                split
                · exact (hs.m.fresh hcf _).weak fun b hb => hb.elim (fun h => h) (fun h => h.elim)
                · intro a n cap hv
                  exact .inl (by cases hv; rfl)
          · exact hk.elim
        · exact hk.elim
      cases ex with
      | normal => exact fin hk
      | ret => exact fin hk
      | exit i => exact hk.elim
    · refine ⟨⟨BelowX.refl _ _, fun _ _ h => h, fun _ _ _ => rfl, fun i b h => (by cases h), fun i b h => (by cases h), hSlt, fun _ _ h => .inl h, ?_, ?_, ?_, ?_, fun g x b hx => (by cases hx), ?_, ?_, fun _ _ => FrV.nilIface, fun h => h.elim⟩, ?_, ?_, rfl⟩
      · intro id x hx; cases hx
      · intro id ro cs hx; cases hx
      · intro i j x y hx; cases hx
      · intro g e T t hx; cases hx
      · intro g g' x y b hx; cases hx
      · intro g id x y b hx; cases hx
      · intro t c s hts
        simp only [St.start] at hts
        split at hts
        · rename_i ty hty'
          injection hts with hts; simp only [Prod.mk.injEq] at hts; obtain ⟨rfl, rfl⟩ := hts
          have htl : t < sig.params.length := (List.getElem?_eq_some_iff.1 hty').1
          have hdt : ds[t]? = some (ds[t]'(by omega)) := List.getElem?_eq_getElem _
          have hvt : vs[t]? = some (vs[t]'(by omega)) := List.getElem?_eq_getElem _
          obtain ⟨x, hx, hxh⟩ := hasL_get hty t ty (by rw [Ty.toL_ofL]; exact hty')
          rw [hdt] at hx; injection hx with hx
          have hden : den (fun i => ds.getD i .top) (.var t) = ds[t]'(by omega) := by show ds.getD t .top = _; exact toL_getD hdt
          refine ⟨vs[t]'(by omega), ?_, by simp, by simpa [SV.lt, SC.lt, E.lt] using htl, ?_⟩
          · rw [Array.getElem?_append_left (by simp; omega)]; simp [hvt]
          · simp only [condB, List.all_nil, if_true]
            refine ⟨by simpa [E.lt] using htl, ?_, ?_⟩
            · show Rep w S _ (den (fun i => ds.getD i .top) (.var t))
              rw [hden]; exact hrep t _ _ hvt hdt
            · show Has ty (den (fun i => ds.getD i .top) (.var t))
              rw [hden, hx]; exact hxh
        · cases hts
      · simp; omega
end
end Go.Eng
/- The contract of a function that is handed objects, out of its body's condition. -/
namespace Go.Eng
open Go Go.RowKit

def varCells : Nat → List RCell → List SC
  | _, [] => []
  | k, c :: r => cellSC true 0 (.var k) c :: varCells (k + 1) r
def varLive : Nat → List RCell → List (Tag × Option (E × TypeId × Ty))
  | _, [] => []
  | k, c :: r => cellLive 0 (.var k) c ++ varLive (k + 1) r
def countF (l : List Bool) : Nat := (l.filter fun b => !b).length
def countT (l : List Bool) : Nat := (l.filter fun b => b).length
def objOff (nd : Nat) (objs : List (List RCell)) (o : Nat) : Nat := nd + (objs.take o).flatten.length
/-- The state in which such a body begins. -/
def St.startO (sig : Sig) (ob : Ob) : St :=
  ⟨fun i => match ob.shape[i]? with
      | some false => (sig.params[countF (ob.shape.take i)]?).map fun ty => ([], .one (.dat (.var (countF (ob.shape.take i))) ty))
      | some true => some ([], .one (.adr (countT (ob.shape.take i)) 0))
      | none => none,
    fun o => (ob.objs[o]?).map fun rc => (false, varCells (objOff (countF ob.shape) ob.objs o) rc),
    updL (fun _ => none) (varLive (countF ob.shape) ob.objs.flatten)⟩

/-- The result: its data, what it owns, the new object. -/
def resO (P : Program) (σ : St) (sig : Sig) (ob : Ob) (fn : Func) : Option (E × OwnL × List Nat) :=
  match ob.fresh with
  | true => match fn.results.toList with
    | [.tmp t] => match σ.tm t with
      | some ([], .one (.adr id 0)) => if ob.objs.length ≤ id then some (.un .tup .nil, [], [id]) else none
      | _ => none
    | _ => none
  | false => match retComps P σ sig.res fn.results.toList with
    | some (es, l) => some ((match sig.res, es with | [_], [e] => e | _, es => .un .tup (.ofL es)), l, [])
    | none => none
def retVCo (P : Program) (sig : Sig) (ob : Ob) (fn : Func) (σ : St) : VC :=
  match resO P σ sig ob fn with
  | some (e, l, fr) => match oObjs σ ob.outs (List.range ob.objs.length ++ fr) with
    | some (ess, ls) => if ownOkB (l ++ ls) then .ret (.un .tup (.cons e (.ofL (ess.map fun es => .un .agg (.ofL es))))) else .stuck 10
    | none => .stuck 12
  | none => .stuck 11

/-- The table's form. -/
def obB (fn : Func) (sig : Sig) (ob : Ob) : Bool :=
  fn.body.isSome && !(fn.name == "runtime.NumGoroutine") && decide (ob.shape.length ≤ fn.ntmps) && decide (0 < sig.params.length) && decide (ob.objs.length ≤ sig.params.length) && (ob.objs.all fun rc => rc.all rcSc) &&
  decide (sig.params.length = countF ob.shape + ob.objs.flatten.length) && decide (countT ob.shape = ob.objs.length) && decide (ob.inIdx.Nodup) && decide (ob.outs.length = ob.objs.length + ob.fresh.toNat) && (!ob.fresh || sig.res.isEmpty)

theorem varCells_get : ∀ (l : List RCell) (k i : Nat), (varCells k l)[i]? = (l[i]?).map fun c => cellSC true 0 (.var (k + i)) c
  | [], k, i => by simp [varCells]
  | c :: l, k, 0 => by simp [varCells]
  | c :: l, k, i + 1 => by simp only [varCells, List.getElem?_cons_succ, varCells_get l (k + 1) i]; congr 2; funext c; congr 2; omega
theorem varCells_len : ∀ (l : List RCell) (k : Nat), (varCells k l).length = l.length
  | [], _ => rfl
  | _ :: l, k => by simp [varCells, varCells_len l]
theorem varLive_mem : ∀ {l : List RCell} {k : Nat} {x}, x ∈ varLive k l → ∃ (i : Nat) (c : RCell), l[i]? = some c ∧ x ∈ cellLive 0 (.var (k + i)) c
  | [], k, x, h => by simp [varLive] at h
  | c :: l, k, x, h => by
    simp only [varLive, List.mem_append] at h
    rcases h with h | h
    · exact ⟨0, c, rfl, h⟩
    · obtain ⟨i, c', h1, h2⟩ := varLive_mem h
      exact ⟨i + 1, c', by simpa using h1, by rw [show k + (i + 1) = k + 1 + i by omega]; exact h2⟩
theorem varLive_cell : ∀ {l : List RCell} {k : Nat} {i : Nat} {t : Ty} {j : Nat} {T : TypeId}, l[i]? = some (t, some (j, T)) → (((0, j), some (.var (k + i), T, t)) : Tag × Option (E × TypeId × Ty)) ∈ varLive k l
  | [], k, i, t, j, T, h => by simp at h
  | c :: l, k, 0, t, j, T, h => by simp at h; subst h; exact List.mem_append_left _ (by simp [cellLive])
  | c :: l, k, i + 1, t, j, T, h => by
    have := varLive_cell (k := k + 1) (l := l) (i := i) (by simpa using h)
    rw [show k + (i + 1) = k + 1 + i by omega]
    exact List.mem_append_right _ this
/-- An element of one of some lists, one behind the other. -/
theorem flatten_get {α : Type} : ∀ {ls : List (List α)} {i : Nat} {x : α}, ls.flatten[i]? = some x → ∃ (o c : Nat) (l : List α), ls[o]? = some l ∧ l[c]? = some x ∧ i = (ls.take o).flatten.length + c
  | [], i, x, h => by simp at h
  | l :: ls, i, x, h => by
    rw [List.flatten_cons] at h
    by_cases hi : i < l.length
    · rw [List.getElem?_append_left hi] at h
      exact ⟨0, i, l, rfl, h, by simp⟩
    · rw [List.getElem?_append_right (by omega)] at h
      obtain ⟨o, c, l', h1, h2, h3⟩ := flatten_get h
      exact ⟨o + 1, c, l', by simpa using h1, h2, by simp only [List.take_succ_cons, List.flatten_cons, List.length_append]; omega⟩
theorem flatten_at {α : Type} : ∀ {ls : List (List α)} {o c : Nat} {l : List α} {x : α}, ls[o]? = some l → l[c]? = some x → ls.flatten[(ls.take o).flatten.length + c]? = some x
  | [], o, c, l, x, h, _ => by simp at h
  | l' :: ls, 0, c, l, x, h, h' => by
    simp at h; subst h
    have hc : c < l'.length := (List.getElem?_eq_some_iff.1 h').1
    simp only [List.take_zero, List.flatten_nil, List.length_nil, Nat.zero_add, List.flatten_cons]
    rw [List.getElem?_append_left hc]; exact h'
  | l' :: ls, o + 1, c, l, x, h, h' => by
    have := flatten_at (ls := ls) (o := o) (c := c) (by simpa using h) h'
    simp only [List.take_succ_cons, List.flatten_cons, List.length_append]
    rw [List.getElem?_append_right (by omega), show l'.length + (ls.take o).flatten.length + c - l'.length = (ls.take o).flatten.length + c by omega]
    exact this
theorem flatten_same {α β : Type} : ∀ {xs : List (List α)} {ys : List (List β)}, xs.length = ys.length → (∀ (i : Nat) x y, xs[i]? = some x → ys[i]? = some y → x.length = y.length) → ∀ o, (xs.take o).flatten.length = (ys.take o).flatten.length
  | [], [], _, _, o => by simp
  | [], _ :: _, h, _, _ => by simp at h
  | _ :: _, [], h, _, _ => by simp at h
  | x :: xs, y :: ys, h, h', 0 => by simp
  | x :: xs, y :: ys, h, h', o + 1 => by
    have := flatten_same (xs := xs) (ys := ys) (by simpa using h) (fun i x y hx hy => h' (i + 1) x y (by simpa using hx) (by simpa using hy)) o
    simp only [List.take_succ_cons, List.flatten_cons, List.length_append, this, h' 0 x y rfl rfl]

theorem argsO_get {w : World} {S : Foot} {β : Nat → Nat} : ∀ {sh : List Bool} {k : Nat} {vs : List Value} {dd : List D}, ArgsO w S β sh k vs dd → vs.length = sh.length ∧ dd.length = countF sh ∧
    ∀ (i : Nat) b, sh[i]? = some b → ∃ v, vs[i]? = some v ∧ (if b then v = .pointer (some ⟨β (k + countT (sh.take i)), 0, none⟩) else ∃ d, dd[countF (sh.take i)]? = some d ∧ Rep w S v d)
  | [], k, [], [], _ => ⟨rfl, rfl, by intro i b h; simp at h⟩
  | true :: sh, k, v :: vs, dd, ⟨h1, h2⟩ => by
    obtain ⟨q1, q2, q3⟩ := argsO_get h2
    refine ⟨by simp [q1], by simp [countF, q2], fun i b hi => ?_⟩
    cases i with
    | zero => simp at hi; subst hi; exact ⟨v, rfl, by simpa [countT] using h1⟩
    | succ i =>
      obtain ⟨u, hu, hb⟩ := q3 i b (by simpa using hi)
      refine ⟨u, by simpa using hu, ?_⟩
      cases b with
      | true => simp only [if_true] at hb ⊢; rw [hb]; simp only [List.take_succ_cons, countT, List.filter_cons, if_true, List.length_cons]; rw [show k + 1 + (List.filter (fun b => b) (List.take i sh)).length = k + ((List.filter (fun b => b) (List.take i sh)).length + 1) by omega]
      | false => simpa [countF] using hb
  | false :: sh, k, v :: vs, d :: dd, ⟨h1, h2⟩ => by
    obtain ⟨q1, q2, q3⟩ := argsO_get h2
    refine ⟨by simp [q1], by simp only [countF, List.filter_cons, Bool.not_false, if_true, List.length_cons] at q2 ⊢; omega, fun i b hi => ?_⟩
    cases i with
    | zero => simp at hi; subst hi; exact ⟨v, rfl, by simpa [countF] using h1⟩
    | succ i =>
      obtain ⟨u, hu, hb⟩ := q3 i b (by simpa using hi)
      refine ⟨u, by simpa using hu, ?_⟩
      cases b with
      | true => simpa [countT] using hb
      | false => simpa [countF] using hb
  | [], _, _ :: _, _, h => by simp [ArgsO] at h
  | [], _, [], _ :: _, h => by simp [ArgsO] at h
  | true :: _, _, [], _, h => by simp [ArgsO] at h
  | false :: _, _, [], _, h => by simp [ArgsO] at h
  | false :: _, _, _ :: _, [], h => by simp [ArgsO] at h

theorem countT_lt : ∀ {l : List Bool} {i : Nat}, l[i]? = some true → countT (l.take i) < countT l
  | [], i, h => by simp at h
  | b :: l, 0, h => by simp at h; subst h; simp [countT]
  | b :: l, i + 1, h => by
    have := countT_lt (l := l) (i := i) (by simpa using h)
    unfold countT at this ⊢
    cases b <;> simp at this ⊢ <;> omega

section
variable {P : Program} {C : Cx} {w w0 : World} {S0 : Base} {G : Gh} {σ : St} {a : Act} {n : Nat}

/-- No function of the table writes over slices that it is handed. -/
def noPl (cs : List (Nat × Sig)) : Bool := cs.all fun x => match x.2.ob with | some ob => !ob.isPl | none => true
theorem noPl_ok {cs : List (Nat × Sig)} (h : noPl cs = true) {k : Nat} {sig : Sig} {ob : Ob} (hk : lk cs k = some sig) (hob : sig.ob = some ob) (hp : ob.isPl = true) : False := by
  have := List.all_eq_true.1 h _ (lk_mem hk)
  simp only [hob, hp] at this
  cases this

theorem objFn_of_vc {f : Nat} {fn : Func} {c : Code} {sig : Sig} {ob : Ob} {Pre0 : List D → Prop} {Φ0 : List D → D} (cs : Tbl) (Φ : Nat → List D → D) (Pre : Nat → List D → Prop) (anns : List (Nat × Ann)) (v : VC)
    (hf : P.funcs[f]? = some fn) (hb : fn.body = some c) (hmix : P.follows .mixedOrders = true) (hob : sig.ob = some ob) (hmp : cs.mp = [] ∧ cs.et = []) (hB : obB fn sig ob = true) (hnp : noPl cs.l = true) (hcf : cs.fr = 0)
    (hcon : ∀ k sig, lk cs.l k = some sig → PureFn P k sig (Pre k) (Φ k))
    (hv : vc ⟨P, cs, fn.ntmps, anns, [], [], []⟩ c (fun ex σ _ _ => match ex with | .exit _ => .stuck 20 | _ => retVCo P sig ob fn σ) (St.startO sig ob) sig.params.length 0 = v)
    (hc : ∀ ds, HasL (.ofL sig.params) ds → Pre0 ds → v.holds Φ Pre (fun d => d = Φ0 ds) (fun i => ds.getD i .top) []) : PureFn P f sig Pre0 Φ0 := by
  unfold obB at hB
  simp only [Bool.and_eq_true, decide_eq_true_eq] at hB
  obtain ⟨⟨⟨⟨⟨⟨⟨⟨⟨⟨_, hname⟩, hps⟩, hpos⟩, hole⟩, hscal⟩, hplen⟩, hcT⟩, hidx⟩, houts⟩, hfres⟩ := hB
  refine ⟨fun args w => ?_, fun hob' => (by rw [hob] at hob'; cases hob'), fun ob' hob' _ w S β τ vs dd oo hin hty hpre => ?_, fun ob' hob' hpl => absurd hpl (by
    rw [hob] at hob'; injection hob' with hob'; subst hob'
    intro hpl
    unfold Ob.isPl at hpl
    simp only [Bool.and_eq_true, List.isEmpty_iff, beq_iff_eq] at hpl
    obtain ⟨⟨_, h1⟩, h2⟩ := hpl
    have h3 := houts
    rw [h2, h1] at h3
    cases hfr : ob.fresh <;> rw [hfr] at h3 <;> simp at h3)⟩
  · unfold callFunc
    have hname' : fn.name ≠ "runtime.NumGoroutine" := by simpa using hname
    simp [hf, hb, hname']
  rw [hob] at hob'; injection hob' with hob'; subst hob'
  obtain ⟨hvl, hddl, hag⟩ := argsO_get hin.args
  -- the data, by their numbers
  have hool : ∀ (o : Nat) rc cells, ob.objs[o]? = some rc → oo[o]? = some cells → rc.length = cells.length := by
    intro o rc cells h1 h2
    obtain ⟨_, _, _, _, h3, _⟩ := hin.objs o rc cells h1 h2
    exact h3.symm
  have hoff : ∀ o, (ob.objs.take o).flatten.length = (oo.take o).flatten.length := flatten_same (by rw [hin.len]) hool
  let ds := dd ++ oo.flatten
  have hρo : ∀ (o c : Nat) cells d, oo[o]? = some cells → cells[c]? = some d → ds.getD (objOff (countF ob.shape) ob.objs o + c) .top = d := by
    intro o c cells d h1 h2
    refine toL_getD ?_
    show (dd ++ oo.flatten)[_]? = _
    rw [List.getElem?_append_right (by unfold objOff; omega)]
    have := flatten_at h1 h2
    rw [← hoff] at this
    rw [← this]; congr 1
    unfold objOff; omega
  have hNlt : ∀ (o c : Nat) rc r, ob.objs[o]? = some rc → rc[c]? = some r → objOff (countF ob.shape) ob.objs o + c < sig.params.length := by
    intro o c rc r h1 h2
    have := (List.getElem?_eq_some_iff.1 (flatten_at h1 h2)).1
    rw [hplen]; unfold objOff; omega
  let S1 : Base := ⟨S, MuO ob β τ, fun o => if o < ob.objs.length then some (β o) else none, False, False, P, []⟩
  let G1 : Gh := ⟨S, β, fun g => τ g.2⟩
  let C1 : Cx := ⟨fun i => ds.getD i .top, sig.params.length, fun i => i < sig.params.length⟩
  have hcell : ∀ (o : Nat) rc, ob.objs[o]? = some rc → ∃ cells vals T, oo[o]? = some cells ∧ w.heap[β o]? = some (.cells (List.toArray vals) T (0, 0)) ∧ vals.length = rc.length ∧ (∀ o', ¬ S (β o) o') ∧
      ∀ (i : Nat) r u, rc[i]? = some r → vals[i]? = some u → ∃ d, C1.ρ (objOff (countF ob.shape) ob.objs o + i) = d ∧ CellOk w 0 S τ r u d := by
    intro o rc ho
    have hol : o < oo.length := by rw [hin.len]; exact (List.getElem?_eq_some_iff.1 ho).1
    obtain ⟨vals, T, h1, h2, h3, h4, h5⟩ := hin.objs o rc _ ho (List.getElem?_eq_getElem hol)
    refine ⟨_, vals, T, List.getElem?_eq_getElem hol, h1, h2, h5, fun i r u hr hu => ?_⟩
    have hil : i < oo[o].length := by rw [h3]; exact (List.getElem?_eq_some_iff.1 hr).1
    exact ⟨_, hρo o i _ _ (List.getElem?_eq_getElem hol) (List.getElem?_eq_getElem hil), h4 i r u _ hr hu (List.getElem?_eq_getElem hil)⟩
  have hliveS : ∀ g x, (St.startO sig ob).live g = some x → ∃ (o c : Nat) (rc : List RCell) (t : Ty) (j : Nat) (T : TypeId), ob.objs[o]? = some rc ∧ rc[c]? = some (t, some (j, T)) ∧ g = (0, j) ∧ x = (.var (objOff (countF ob.shape) ob.objs o + c), T, t) := by
    intro g x hx
    have hx' : updL (fun _ => none) (varLive (countF ob.shape) ob.objs.flatten) g = some x := hx
    unfold updL at hx'
    split at hx'
    · rename_i y hy
      subst hx'
      obtain ⟨i, r, hr, hm⟩ := varLive_mem (lk_mem hy)
      obtain ⟨o, c, rc, h1, h2, h3⟩ := flatten_get hr
      obtain ⟨t, _ | ⟨j, T⟩⟩ := r
      · simp [cellLive] at hm
      · simp only [cellLive, List.mem_singleton, Prod.mk.injEq, Option.some.injEq] at hm
        obtain ⟨rfl, rfl⟩ := hm
        exact ⟨o, c, rc, t, j, T, h1, h2, rfl, by rw [h3]; unfold objOff; rw [Nat.add_assoc]⟩
    · cases hx'
  have hidxm : ∀ (o c : Nat) rc t j T, ob.objs[o]? = some rc → rc[c]? = some (t, some (j, T)) → j ∈ ob.inIdx := by
    intro o c rc t j T h1 h2
    unfold Ob.inIdx
    refine List.mem_flatMap.2 ⟨rc, List.mem_of_getElem? h1, ?_⟩
    unfold rcIdx
    exact List.mem_filterMap.2 ⟨_, List.mem_of_getElem? h2, rfl⟩
  have hownS : ∀ g e T t, (St.startO sig ob).live g = some (e, T, t) → OwnOk C1 w 0 G1 g e T t := by
    intro g e T t hx
    obtain ⟨o, c, rc, t', j, T', h1, h2, rfl, he⟩ := hliveS g _ hx
    simp only [Prod.mk.injEq] at he
    obtain ⟨rfl, rfl, rfl⟩ := he
    obtain ⟨cells, vals, T0, _, _, h3, _, h4⟩ := hcell o rc h1
    have hcl : c < vals.length := by rw [h3]; exact (List.getElem?_eq_some_iff.1 h2).1
    obtain ⟨d, hd, hck⟩ := h4 c _ _ h2 (List.getElem?_eq_getElem hcl)
    obtain ⟨_, hco⟩ := hck
    exact hco.ok (C := C1) (G := G1) (g := (0, j)) hpos (by simpa [E.lt] using hNlt o c rc _ h1 h2) hd rfl rfl
  have hstart : Sim fn.ntmps w S1 C1 G1 (St.startO sig ob) ⟨vs.toArray ++ Array.replicate (fn.ntmps - vs.length) undef, []⟩ w := by
    refine ⟨⟨BelowX.refl _ _, fun _ _ h => h, fun _ _ _ => rfl, ?_, ?_, hin.lt, fun _ _ h => .inl h, ?_, ?_, ?_, hownS, ?_, ?_, ?_, fun h => h.elim, fun h => h.elim⟩, ?_, ?_, rfl⟩
    · intro i b hi
      simp only [S1] at hi
      split at hi
      · rename_i hlt
        injection hi with hi
        exact ⟨by show i < sig.params.length; omega, hi⟩
      · cases hi
    · exact fun _ _ _ => trivial
    · intro o x hx
      simp only [St.startO, Option.map_eq_some_iff] at hx
      obtain ⟨rc, hrc, _⟩ := hx
      have := (List.getElem?_eq_some_iff.1 hrc).1
      show o < sig.params.length; omega
    · intro o ro cs' hx
      simp only [St.startO, Option.map_eq_some_iff, Prod.mk.injEq] at hx
      obtain ⟨rc, hrc, rfl, rfl⟩ := hx
      have hol := (List.getElem?_eq_some_iff.1 hrc).1
      obtain ⟨cells, vals, T, _, h1, h2, h3, h4⟩ := hcell o rc hrc
      refine ⟨.inr ⟨.inl ⟨o, hol, rfl⟩, o, by simp only [S1]; rw [if_pos hol]⟩, ?_, BlkOk.mk (vs := vals) (T := T) h1 ⟨by rw [varCells_len, h2], ?_⟩, by simpa using h3⟩
      · rw [List.all_eq_true]
        intro y hy
        obtain ⟨j, hj⟩ := List.getElem?_of_mem hy
        rw [varCells_get] at hj
        simp only [Option.map_eq_some_iff] at hj
        obtain ⟨r, hr, rfl⟩ := hj
        have := List.all_eq_true.1 (List.all_eq_true.1 hscal rc (List.mem_of_getElem? hrc)) r (List.mem_of_getElem? hr)
        obtain ⟨t, _ | ⟨j0, T0⟩⟩ := r
        · exact this
        · cases hej : exN j0 <;> simp [cellSC, hej, SC.scalar]
      · intro i y u hy hu
        rw [varCells_get] at hy
        simp only [Option.map_eq_some_iff] at hy
        obtain ⟨r, hr, rfl⟩ := hy
        obtain ⟨d, hd, hck⟩ := h4 i r u hr hu
        exact cellSC_ok (C := C1) (G := G1) (e := .var (objOff (countF ob.shape) ob.objs o + i)) hck hpos (by simpa [E.lt] using hNlt o i rc r hrc hr) hd (fun _ => rfl) true
    · intro i j x y hi hj he
      simp only [St.startO, Option.map_eq_some_iff] at hi hj
      obtain ⟨_, hi, _⟩ := hi
      obtain ⟨_, hj, _⟩ := hj
      exact hin.inj i j (List.getElem?_eq_some_iff.1 hi).1 (List.getElem?_eq_some_iff.1 hj).1 he
    · intro g x b hx hgb
      obtain ⟨o, c, rc, t, j, T, h1, h2, rfl, _⟩ := hliveS g x hx
      exact .inr (.inr ⟨j, hidxm o c rc t j T h1 h2, hgb⟩)
    · intro g g' x y b hx hy hgb hgb'
      obtain ⟨o, c, rc, t, j, T, h1, h2, rfl, _⟩ := hliveS g x hx
      obtain ⟨o', c', rc', t', j', T', h1', h2', rfl, _⟩ := hliveS g' y hy
      rw [hin.own j j' b (hidxm _ _ _ _ _ _ h1 h2) (hidxm _ _ _ _ _ _ h1' h2') hgb hgb']
    · intro g o x y b hx hy hgb
      obtain ⟨o', c, rc, t, j, T, h1, h2, rfl, _⟩ := hliveS g x hx
      simp only [St.startO, Option.map_eq_some_iff] at hy
      obtain ⟨_, hy, _⟩ := hy
      exact hin.ownbox j o b (hidxm _ _ _ _ _ _ h1 h2) (List.getElem?_eq_some_iff.1 hy).1 hgb
    · intro t cnd s hts
      simp only [St.startO] at hts
      split at hts
      · rename_i hsh
        simp only [Option.map_eq_some_iff, Prod.mk.injEq] at hts
        obtain ⟨ty, hty', rfl, rfl⟩ := hts
        obtain ⟨u, hu, hbb⟩ := hag t false hsh
        simp only [Bool.false_eq_true, if_false] at hbb
        obtain ⟨d, hd, hrep⟩ := hbb
        have hdl : countF (ob.shape.take t) < dd.length := (List.getElem?_eq_some_iff.1 hd).1
        have hdd : ds[countF (ob.shape.take t)]? = some d := by show (dd ++ oo.flatten)[_]? = _; rw [List.getElem?_append_left hdl]; exact hd
        obtain ⟨x, hx, hxh⟩ := hasL_get hty _ ty (by rw [Ty.toL_ofL]; exact hty')
        have hxd : x = d := by
          have : ds[countF (ob.shape.take t)]? = some x := hx
          rw [hdd] at this; injection this with this; exact this.symm
        subst hxd
        have hden : den C1.ρ (.var (countF (ob.shape.take t))) = x := toL_getD hdd
        have hltp : countF (ob.shape.take t) < sig.params.length := (List.getElem?_eq_some_iff.1 hty').1
        refine ⟨u, ?_, by simp, by simpa [SV.lt, SC.lt, E.lt] using hltp, ?_⟩
        · have htl : t < vs.length := (List.getElem?_eq_some_iff.1 hu).1
          rw [Array.getElem?_append_left (by simpa using htl)]; simpa using hu
        · simp only [condB, List.all_nil, if_true]
          exact ⟨by simpa [E.lt] using hltp, by rw [hden]; exact hrep, by rw [hden]; exact hxh⟩
      · rename_i hsh
        injection hts with hts
        simp only [Prod.mk.injEq] at hts
        obtain ⟨rfl, rfl⟩ := hts
        obtain ⟨u, hu, hbb⟩ := hag t true hsh
        simp only [if_true, Nat.zero_add] at hbb
        refine ⟨u, ?_, by simp, rfl, ?_⟩
        · have htl : t < vs.length := (List.getElem?_eq_some_iff.1 hu).1
          rw [Array.getElem?_append_left (by simpa using htl)]; simpa using hu
        · simp only [condB, List.all_nil, if_true]
          refine ⟨?_, hbb⟩
          show countT (ob.shape.take t) < sig.params.length
          have := countT_lt hsh
          omega
      · cases hts
    · simp; omega
  refine calls_of_wp hf hb ?_
  have hcond := hc ds hty hpre
  rw [← hv] at hcond
  refine vc_sound (w0 := w) (S0 := S1) (N := ⟨P, cs, fn.ntmps, anns, [], [], []⟩) hmix hcon (fun k sig ob hk hob hpl => (noPl_ok hnp hk hob hpl).elim) ⟨fun h => h.elim, fun h => h.elim, rfl, fun T kt h => (by rw [show cs.mp = [] from hmp.1] at h; cases h), fun k sg h => (by rw [show cs.et = [] from hmp.2] at h; cases h)⟩ (fun _ _ h => by cases h) (fun _ _ h => by cases h) (fun h => by have : cs.fr = 2 := h; omega) rfl c _ _ _ 0 _ [] _ hcond rfl (fun i b h => ?_) ?_ _ w G1 ?_
  · simp only [S1] at h
    split at h
    · omega
    · cases h
  · intro ex σ' p' d' ρ' stk' a' w' G' _ _ _ _ hk hs
    have fin : (retVCo P sig ob fn σ').holds Φ Pre (fun d => d = Φ0 ds) ρ' stk' → a'.defers = [] ∧ ∃ v, (results fn a'.tmps).run P w' = .ok v w' ∧ ∃ v0 S' τ' βn, Ending.returned v = .returned v0 ∧ ObjOut w S sig ob β τ v0 (Φ0 ds) w' S' τ' βn := by
      intro hk
      refine ⟨hs.defers, ?_⟩
      unfold retVCo at hk
      split at hk
      · rename_i e l fr hres
        split at hk
        · rename_i ess ls hobjs
          split at hk
          · rename_i hok
            have hok0 := hok
            unfold ownOkB at hok
            simp only [Bool.and_eq_true, decide_eq_true_eq] at hok
            obtain ⟨hnt, hnj⟩ := hok
            obtain ⟨q1, q2, q3, q4, q5, q6⟩ := oObjs_ok hobjs
            have hd : den ρ' (.un .tup (.cons e (.ofL (ess.map fun es => .un .agg (.ofL es))))) = Φ0 ds := hk
            have hd' : Φ0 ds = .tup (den ρ' e :: (ess.map fun es => es.map (den ρ')).map .agg) := by
              rw [← hd]
              simp only [den, den_ofL, U.den, D.toL, List.map_map]
              congr 2
              apply List.map_congr_left
              intro es _
              simp only [Function.comp, den, den_ofL, U.den, D.toL]
            -- the result itself
            have hpinβ : ∀ o, o < ob.objs.length → G'.β o = β o := fun o ho => (hs.m.pin o (β o) (by simp only [S1]; rw [if_pos ho])).2
            have resPart : ∃ v0, (results fn a'.tmps).run P w' = .ok v0 w' ∧ (∀ j g, (j, some g) ∈ l → ∃ z, σ'.live g = some z) ∧ (if ob.fresh then l = [] ∧ ∃ id, fr = [id] ∧ ob.objs.length ≤ id ∧ v0 = .pointer (some ⟨G'.β id, 0, none⟩) else fr = [] ∧ ownIdx sig.res = l.map (·.1) ∧ ResOk w' 0 G'.S (τOf G' (l ++ ls)) sig.res v0 (den ρ' e)) := by
              unfold resO at hres
              split at hres
              · rename_i hfr
                split at hres
                · rename_i t hrt
                  split at hres
                  · rename_i id ht
                    split at hres
                    · rename_i hid
                      injection hres with hres; simp only [Prod.mk.injEq] at hres; obtain ⟨rfl, rfl, rfl⟩ := hres
                      obtain ⟨u, h1, _, _, h2⟩ := hs.t t _ _ ht
                      simp only [condB, List.all_nil, if_true] at h2
                      obtain ⟨_, rfl⟩ := h2
                      refine ⟨_, ?_, by simp, by rw [if_pos hfr]; exact ⟨rfl, id, rfl, hid, rfl⟩⟩
                      have := run_results (P := P) (w := w') (a := a') (fn := fn) (vs := [.pointer (some ⟨G'.β id, 0, none⟩)]) (by rw [hrt, List.mapM_cons, Sem.run_bind, show (readRes a' (.tmp t)).run P w' = .ok (.pointer (some ⟨G'.β id, 0, none⟩)) w' from (by simp [readRes, h1]), Result.andThen_ok, List.mapM_nil]; rfl)
                      exact this
                    · cases hres
                  · cases hres
                · cases hres
              · rename_i hfr
                split at hres
                · rename_i es l' hret
                  injection hres with hres; simp only [Prod.mk.injEq] at hres; obtain ⟨rfl, rfl, rfl⟩ := hres
                  obtain ⟨us, h1, h2, h3, h4, h5⟩ := run_retComps (L := l' ++ ls) hs hnj hret (fun x hx => List.mem_append_left _ hx)
                  refine ⟨_, run_results h1, retComps_live hret, ?_⟩
                  rw [hfr]
                  simp only [Bool.false_eq_true, if_false]
                  refine ⟨trivial, own_retComps hret, ?_⟩
                  split
                  · rename_i r e0 hres'
                    rw [hres'] at h2 h5 ⊢
                    obtain ⟨u, rfl⟩ : ∃ u, us = [u] := List.length_eq_one_iff.1 h2
                    exact .inl ⟨r, rfl, h5 0 r u e0 rfl rfl rfl⟩
                  · rename_i es1 _ es2 hne
                    have hl1 : sig.res.length ≠ 1 := by
                      intro h
                      obtain ⟨r, hr⟩ := List.length_eq_one_iff.1 h
                      obtain ⟨e, he⟩ := List.length_eq_one_iff.1 (h3.trans h)
                      exact hne r e hr he
                    have hmt : resVal us = .tuple us.toArray := by
                      match us, h2 with
                      | [], _ => rfl
                      | [u], h2 => exact absurd h2.symm hl1
                      | _ :: _ :: _, _ => rfl
                    rw [hmt]
                    refine .inr ⟨hl1, us, es1.map (den ρ'), rfl, by simp only [den, den_ofL, U.den, D.toL], h2, by simp [h3], fun i r u y hr hu hy => ?_⟩
                    simp only [List.getElem?_map, Option.map_eq_some_iff] at hy
                    obtain ⟨e, he, rfl⟩ := hy
                    exact h5 i r u e hr hu he
                · cases hres
            obtain ⟨v0, hrun, hll, hpart⟩ := resPart
            have hlive : ∀ j g, (j, some g) ∈ l ++ ls → ∃ z, σ'.live g = some z := fun j g hm => (List.mem_append.1 hm).elim (hll j g) (q5 j g)
            have hfrl : fr.length = ob.fresh.toNat := by
              cases hfr : ob.fresh with
              | true => rw [hfr] at hpart; simp only [if_true] at hpart; obtain ⟨_, id, rfl, _⟩ := hpart; rfl
              | false => rw [hfr] at hpart; simp only [Bool.false_eq_true, if_false] at hpart; rw [hpart.1]; rfl
            let βn : Nat := G'.β (fr.headD 0)
            have hat : ∀ (i : Nat) id, (List.range ob.objs.length ++ fr)[i]? = some id → obAt ob β βn i = G'.β id := by
              intro i id hi
              unfold obAt
              by_cases hil : i < ob.objs.length
              · rw [List.getElem?_append_left (by simpa using hil)] at hi
                simp [hil] at hi
                subst hi
                rw [if_pos hil, hpinβ i hil]
              · rw [List.getElem?_append_right (by simp; omega)] at hi
                rw [if_neg hil]
                have h0 : i - (List.range ob.objs.length).length = 0 := by
                  have := (List.getElem?_eq_some_iff.1 hi).1
                  rw [hfrl] at this
                  cases hfr : ob.fresh <;> rw [hfr] at this <;> simp at this ⊢ <;> omega
                rw [h0] at hi
                show G'.β (fr.headD 0) = _
                cases fr with
                | nil => simp at hi
                | cons x r => simp at hi; subst hi; rfl
            have hout : outIdx sig ob = (l ++ ls).map (·.1) := by
              cases hfr : ob.fresh with
              | true =>
                rw [hfr] at hpart hfres
                simp only [if_true] at hpart
                have hre : sig.res = [] := by simpa using hfres
                rw [hpart.1]
                unfold outIdx
                rw [hre]
                exact q3
              | false =>
                rw [hfr] at hpart
                simp only [Bool.false_eq_true, if_false] at hpart
                unfold outIdx
                rw [List.map_append, hpart.2.1, q3]
            have hidN : ∀ i, i < ob.outs.length → ∃ id, (List.range ob.objs.length ++ fr)[i]? = some id := by
              intro i hi
              exact ⟨_, List.getElem?_eq_getElem (by rw [q2]; exact hi)⟩
            refine ⟨v0, hrun, v0, G'.S, τOf G' (l ++ ls), βn, rfl, ⟨hs.m.below, hs.m.foot0, hs.m.footlt, hs.m.footnew, hs.m.keep, ⟨den ρ' e, ess.map fun es => es.map (den ρ'), hd', by simp [q1], ?_, ?_⟩, ?_, ?_, ?_⟩⟩
            · cases hfr : ob.fresh with
              | true =>
                rw [hfr] at hpart
                simp only [if_true] at hpart ⊢
                obtain ⟨_, id, rfl, hid, hv0⟩ := hpart
                refine ⟨hv0, ?_⟩
                show w.heap.size ≤ G'.β id
                obtain ⟨cs1, hcs1⟩ := q4 id (by simp)
                rcases (hs.m.box _ _ _ hcs1).1 with h | ⟨_, i, hi⟩
                · exact h
                · simp only [S1] at hi
                  split at hi
                  · rename_i hin'
                    injection hi with hi
                    obtain ⟨cs2, hcs2⟩ := q4 i (by simp [hin'])
                    have := hs.m.inj i id _ _ hcs2 hcs1 ((hpinβ i hin').trans hi)
                    omega
                  · cases hi
              | false =>
                rw [hfr] at hpart
                simp only [Bool.false_eq_true, if_false] at hpart ⊢
                exact hpart.2.2
            · intro i rc cells h1 h2
              simp only [List.getElem?_map, Option.map_eq_some_iff] at h2
              obtain ⟨es, hes, rfl⟩ := h2
              obtain ⟨id, hid⟩ := hidN i (List.getElem?_eq_some_iff.1 h1).1
              obtain ⟨cs1, lo, r1, r2, r3⟩ := q6 i rc id es h1 hid hes
              obtain ⟨_, _, hblk, b5⟩ := hs.m.box _ _ _ r1
              obtain ⟨us, T, b3, b4⟩ := hblk.cells (retCells_notMap r2)
              obtain ⟨k1, k2, k3⟩ := retCells_ok (L := l ++ ls) hs.m hnj r2 b4 (fun x hx => List.mem_append_right _ (r3 x hx))
              rw [hat i id hid]
              refine ⟨us, T, b3, k2, by simp [k1], fun j r u d hr hu hd => ?_, by simpa using b5⟩
              simp only [List.getElem?_map, Option.map_eq_some_iff] at hd
              obtain ⟨e1, he1, rfl⟩ := hd
              exact k3 j r u e1 hr hu he1
            · intro j b hj hb
              rw [hout] at hj
              obtain ⟨g, hgl, hgb⟩ := own_tag hok0 hj hb
              obtain ⟨z, hz⟩ := hlive _ _ hgl
              exact hs.m.ownnew g z b hz hgb
            · intro j k b hj hk' hbj hbk
              rw [hout] at hj hk'
              exact own_apart hs.m hok0 hlive hj hk' hbj hbk
            · intro j i b hj hi hb
              rw [hout] at hj
              obtain ⟨g, hgl, hgb⟩ := own_tag hok0 hj hb
              obtain ⟨z, hz⟩ := hlive _ _ hgl
              obtain ⟨id, hid⟩ := hidN i hi
              obtain ⟨cs1, hcs1⟩ := q4 id (List.mem_of_getElem? hid)
              rw [hat i id hid]
              exact hs.m.ownbox g id z _ b hz hcs1 hgb
          · exact hk.elim
        · exact hk.elim
      · exact hk.elim
    cases ex with
    | normal => exact fin hk
    | ret => exact fin hk
    | exit i => exact hk.elim
  · exact hstart
end
end Go.Eng
/- Contracts one after the other; small laws for what is left. -/
namespace Go.Eng
open Go Go.RowKit

def fvc (P : Program) (cs : Tbl) (anns : List (Nat × Ann)) (sig : Sig) (fn : Func) : VC :=
  match fn.body with
  | some c => vc ⟨P, cs, fn.ntmps, anns, [], [], []⟩ c (fun ex σ _ _ => match ex with | .exit _ => .stuck 20 | _ => retVC P sig fn σ) (St.start sig.params) sig.params.length 0
  | none => .stuck 30
def fnB (fn : Func) (sig : Sig) : Bool := sig.ob.isNone && fn.body.isSome && !(fn.name == "runtime.NumGoroutine") && decide (sig.params.length ≤ fn.ntmps)
/-- In mode 0 nothing is told to lean on new blocks alone. -/
def frB (cs : Tbl) (sig : Sig) : Bool := cs.fr == 0 && noFr sig.res || cs.fr == 1
theorem frB_ok {cs : Tbl} {sig : Sig} (h : frB cs sig = true) : cs.fr = 0 ∧ noFr sig.res = true ∨ cs.fr = 1 := by
  unfold frB at h
  simpa using h

/-- Each function of a table keeps its contract. -/
def Con (P : Program) (Pre : Nat → List D → Prop) (Φ : Nat → List D → D) (cs : List (Nat × Sig)) : Prop := ∀ k sig, lk cs k = some sig → PureFn P k sig (Pre k) (Φ k)

theorem con_nil {P : Program} {Pre : Nat → List D → Prop} {Φ : Nat → List D → D} : Con P Pre Φ [] := fun k sig h => by cases h
theorem con_cons {P : Program} {Pre : Nat → List D → Prop} {Φ : Nat → List D → D} {k : Nat} {s : Sig} {cs : List (Nat × Sig)} (h : PureFn P k s (Pre k) (Φ k)) (t : Con P Pre Φ cs) : Con P Pre Φ ((k, s) :: cs) := fun j sig hj => by
  simp only [lk] at hj
  split at hj
  · rename_i e; subst e; injection hj with hj; subst hj; exact h
  · exact t j sig hj

theorem pureFn_of {P : Program} {f : Nat} {fn : Func} {sig : Sig} {Pre0 : List D → Prop} {Φ0 : List D → D} {cs : Tbl} {Φ : Nat → List D → D} {Pre : Nat → List D → Prop} {anns : List (Nat × Ann)} {v : VC}
    (hmix : P.follows .mixedOrders = true) (hcon : Con P Pre Φ cs.l) (hcf : frB cs sig = true) (hf : P.funcs[f]? = some fn) (hB : fnB fn sig = true) (hv : fvc P cs anns sig fn = v)
    (hmp : cs.mp = [] ∧ cs.et = []) (hc : ∀ ds, HasL (.ofL sig.params) ds → Pre0 ds → v.holds Φ Pre (fun d => d = Φ0 ds) (fun i => ds.getD i .top) []) : PureFn P f sig Pre0 Φ0 := by
  unfold fnB at hB
  simp only [Bool.and_eq_true, decide_eq_true_eq] at hB
  obtain ⟨⟨⟨h0, h1⟩, h2⟩, h3⟩ := hB
  obtain ⟨c, hb⟩ := Option.isSome_iff_exists.1 h1
  refine pureFn_of_vc cs [] [] Φ Pre anns v hf hb (by simpa using h2) hmix h3 (by simpa using h0) hmp hcon (frB_ok hcf) (fun _ _ h => by cases h) (fun _ _ h => by cases h) ?_ hc
  unfold fvc at hv
  rw [hb] at hv
  exact hv

theorem toL_list (l : List D) : (D.list l).toL = l := rfl
theorem toL_agg (l : List D) : (D.agg l).toL = l := rfl
theorem toL_tup (l : List D) : (D.tup l).toL = l := rfl
theorem toL_ptr (l : List D) : (D.ptr l).toL = l := rfl
theorem toL_fn (f : Nat) (l : List D) : (D.fn f l).toL = l := rfl
theorem toI_int (k : IntKind) (n : Int) : (D.int k n).toI = n := rfl
theorem toB_bool (b : Bool) : (D.bool b).toB = b := rfl

theorem wrap64 {n : Int} (h1 : -9223372036854775808 ≤ n) (h2 : n ≤ 9223372036854775807) : IntKind.wrap .i64 n = n := by
  rw [IntKind.wrap_i64]; omega
theorem inK64 {n : Int} : inK .i64 n ↔ -9223372036854775808 ≤ n ∧ n ≤ 9223372036854775807 := by
  unfold inK
  have h1 : IntKind.min .i64 = -9223372036854775808 := by rfl
  have h2 : IntKind.max .i64 = 9223372036854775807 := by rfl
  rw [h1, h2]
end Go.Eng
/- What came in, read by the claim's own reader, reads as data of the engine's. -/
namespace Go.Eng
open Go Go.RowKit Go.ChangeShapes Go.WideShapes

def fieldTys (g : TypeId → Option (List Ty)) (cells : TypeId → Nat) : Nat → List Field → Option (List Ty)
  | _, [] => some []
  | o, f :: fs => if f.offset = o then
      match g f.type with
      | some ts => if cells f.type = ts.length then (fieldTys g cells (o + ts.length) fs).map (ts ++ ·) else none
      | none => none
    else none
def notAgg : Ty → Bool
  | .agg _ => false
  | _ => true
def elemTy (P : Program) (e : TypeId) (ts : List Ty) : Option Ty :=
  if aggT P e then some (.agg (.ofL ts)) else match ts with
    | [t] => if notAgg t then some t else none
    | _ => none
/-- An array's elements, as if they were fields. -/
def arrFields (cells : Nat) (e : TypeId) (k : Nat) : List Field := (List.range k).map fun i => { (default : Field) with type := e, offset := i * cells }
/-- The types of a type's cells. -/
def cellTys (P : Program) : Nat → TypeId → Option (List Ty)
  | 0, _ => none
  | n + 1, T => match P.underlying T with
    | some .bool => some [.bool]
    | some (.int k) => some [.int k]
    | some .string => some [.str]
    | some (.slice e) => match cellTys P n e with
      | some ts => if 0 < ts.length ∧ P.cellsOf e = ts.length then (elemTy P e ts).bind fun t => if P.bytesOf e = t.bytes then some [.list t] else none else none
      | none => none
    | some (.struct fs) => match fieldTys (cellTys P n) P.cellsOf 0 fs.toList with
      | some ts => if P.cellsOf T = ts.length then some ts else none
      | none => none
    | some (.array k e) => match fieldTys (cellTys P n) P.cellsOf 0 (arrFields (P.cellsOf e) e k) with
      | some ts => if P.cellsOf T = ts.length then some ts else none
      | none => none
    | _ => none
def argTy (P : Program) (n : Nat) (T : TypeId) : Option Ty := (cellTys P n T).bind (elemTy P T)

mutual
/-- How many elements the lists of a datum have, all told. -/
def D.wt : D → Nat
  | .list l => wtL l + l.length
  | .agg l => wtL l
  | _ => 0
def wtL : List D → Nat
  | [] => 0
  | d :: r => d.wt + wtL r
end
mutual
def dwt {H : Type} : DataW H → Nat
  | .slice e _ => dwtL e + e.length
  | .agg p => dwtL p
  | _ => 0
def dwtL {H : Type} : List (DataW H) → Nat
  | [] => 0
  | d :: r => dwt d + dwtL r
end
theorem wtL_append : ∀ {a b : List D}, wtL (a ++ b) = wtL a + wtL b
  | [], b => by simp [wtL]
  | x :: a, b => by simp only [List.cons_append, wtL, wtL_append (a := a)]; omega
theorem wtL_le {H : Type} : ∀ {ds : List D} {xs : List (DataW H)}, ds.length = xs.length → (∀ (i : Nat) d x, ds[i]? = some d → xs[i]? = some x → d.wt ≤ dwt x) → wtL ds ≤ dwtL xs
  | [], [], _, _ => Nat.le_refl _
  | [], _ :: _, h, _ => by simp at h
  | _ :: _, [], h, _ => by simp at h
  | d :: ds, x :: xs, h, h' => by
    simp only [wtL, dwtL]
    have h1 := h' 0 d x rfl rfl
    have h2 := wtL_le (ds := ds) (xs := xs) (by simpa using h) (fun i d x a b => h' (i + 1) d x (by simpa using a) (by simpa using b))
    omega

inductive R3 (K : Nat) (w : World) (S : Foot) : List Value → List D → List Ty → Prop
  | nil : R3 K w S [] [] []
  | cons {v d t vs ds ts} (h : Rep w S v d) (ht : HasK K t d) (hr : R3 K w S vs ds ts) : R3 K w S (v :: vs) (d :: ds) (t :: ts)

section
variable {K : Nat} {d : D} {l : List D} {k : IntKind} {t h : Ty} {f : Nat}
theorem hask_int : HasK K (.int k) d ↔ ∃ n, d = .int k n ∧ inK k n := Iff.rfl
theorem hask_bool : HasK K .bool d ↔ ∃ b, d = .bool b := Iff.rfl
theorem hask_str : HasK K .str d ↔ ∃ s, d = .str s := Iff.rfl
theorem hask_list : HasK K (.list t) d ↔ ∃ l, d = .list l ∧ lenOkK K t l.length ∧ ∀ x ∈ l, HasK K t x := Iff.rfl
theorem hask_agg : HasK K (.agg t) d ↔ ∃ l, d = .agg l ∧ HasLK K t l := Iff.rfl
theorem hask_tup : HasK K (.tup t) d ↔ ∃ l, d = .tup l ∧ HasLK K t l := Iff.rfl
theorem hask_box : HasK K (.box t) d ↔ ∃ l, d = .ptr l ∧ HasLK K t l := Iff.rfl
theorem hask_ptr : HasK K (.ptr t) d ↔ d = .nilp ∨ ∃ l, d = .ptr l ∧ HasLK K t l := Iff.rfl
theorem hask_fn : HasK K (.fn f t) d ↔ ∃ l, d = .fn f l ∧ HasLK K t l := Iff.rfl
theorem hask_nil : HasLK K .nil l ↔ l = [] := Iff.rfl
theorem hask_cons : HasLK K (.cons h t) l ↔ ∃ a r, l = a :: r ∧ HasK K h a ∧ HasLK K t r := Iff.rfl
end

section
variable {w : World} {S : Foot} {K : Nat}
theorem R3.append {vs ds ts vs' ds' ts'} (h : R3 K w S vs ds ts) (h' : R3 K w S vs' ds' ts') : R3 K w S (vs ++ vs') (ds ++ ds') (ts ++ ts') := by
  induction h with
  | nil => exact h'
  | cons a b _ ih => exact .cons a b ih
theorem R3.len {vs ds ts} (h : R3 K w S vs ds ts) : vs.length = ts.length ∧ ds.length = ts.length := by
  induction h with
  | nil => exact ⟨rfl, rfl⟩
  | cons a b _ ih => exact ⟨by simp [ih.1], by simp [ih.2]⟩
theorem R3.get {vs ds ts} (h : R3 K w S vs ds ts) : ∀ (i : Nat) v d, vs[i]? = some v → ds[i]? = some d → Rep w S v d := by
  induction h with
  | nil => intro i v d h; simp at h
  | cons a b _ ih =>
    intro i v d h1 h2
    cases i with
    | zero => simp at h1 h2; subst h1; subst h2; exact a
    | succ i => exact ih i v d (by simpa using h1) (by simpa using h2)
theorem R3.has {vs ds ts} (h : R3 K w S vs ds ts) : HasLK K (.ofL ts) ds := by
  induction h with
  | nil => exact hask_nil.2 rfl
  | cons a b _ ih => exact hask_cons.2 ⟨_, _, rfl, b, ih⟩

theorem cells_notAgg {t : Ty} {d : D} (h : HasK K t d) (hn : notAgg t = true) : d.cells = [d] := by
  cases t with
  | agg fs => cases hn
  | int k => obtain ⟨n, rfl, _⟩ := hask_int.1 h; rfl
  | bool => obtain ⟨n, rfl⟩ := hask_bool.1 h; rfl
  | str => obtain ⟨n, rfl⟩ := hask_str.1 h; rfl
  | list t => obtain ⟨n, rfl, _⟩ := hask_list.1 h; rfl
  | tup t => obtain ⟨n, rfl, _⟩ := hask_tup.1 h; rfl
  | box t => obtain ⟨n, rfl, _⟩ := hask_box.1 h; rfl
  | ptr t => rcases hask_ptr.1 h with rfl | ⟨n, rfl, _⟩ <;> rfl
  | fn f t => obtain ⟨n, rfl, _⟩ := hask_fn.1 h; rfl
  | nil => exact h.elim
  | cons a b => exact h.elim

/-- The datum of a value, of its cells. -/
theorem elem_of {P : Program} {e : TypeId} {ts : List Ty} {t : Ty} {vs : List Value} {ds : List D} (he : elemTy P e ts = some t) (h : R3 K w S vs ds ts) : ∃ d : D, HasK K t d ∧ d.cells = ds ∧ (aggT P e = true → d = .agg ds) ∧ (aggT P e = false → ds = [d]) ∧ d.wt = wtL ds := by
  unfold elemTy at he
  split at he
  · rename_i ha
    injection he with he; subst he
    exact ⟨.agg ds, hask_agg.2 ⟨ds, rfl, h.has⟩, rfl, fun _ => rfl, (fun h => by rw [ha] at h; cases h), by simp [D.wt]⟩
  · rename_i ha
    split at he
    · rename_i t'
      split at he
      · rename_i hn
        injection he with he; subst he
        cases h with
        | cons a b hr =>
          cases hr
          rename_i d
          exact ⟨d, b, cells_notAgg b hn, (fun h => absurd h ha), (fun _ => rfl), by simp [wtL]⟩
      · cases he
    · cases he

variable {H : Type} {enc : TypeId × Value → H} {P : Program} {base : Nat} {spare : Nat → Bool} {held : Bool}

theorem weightsEach_mem {z : Nat} : ∀ {ts : List TypeId} {ds : List (DataW H)} (i : Nat) {t : TypeId} {d : DataW H}, ts[i]? = some t → ds[i]? = some d → z ∈ d.weights P t → z ∈ DataW.weightsEach P ts ds
  | [], _, i, t, d, h, _, _ => by simp at h
  | _ :: _, [], i, t, d, _, h, _ => by simp at h
  | t :: ts, d :: ds, 0, u, e, h1, h2, hz => by
    simp at h1 h2; subst h1; subst h2
    unfold DataW.weightsEach
    exact List.mem_append_left _ hz
  | t :: ts, d :: ds, i + 1, u, e, h1, h2, hz => by
    unfold DataW.weightsEach
    exact List.mem_append_right _ (weightsEach_mem i (by simpa using h1) (by simpa using h2) hz)
theorem weightsAll_mem {z : Nat} {e : TypeId} : ∀ {ds : List (DataW H)} {d : DataW H}, d ∈ ds → z ∈ d.weights P e → z ∈ DataW.weightsAll P e ds
  | [], d, h, _ => by simp at h
  | x :: ds, d, h, hz => by
    unfold DataW.weightsAll
    rcases List.mem_cons.1 h with rfl | h
    · exact List.mem_append_left _ hz
    · exact List.mem_append_right _ (weightsAll_mem h hz)

theorem fields_rep {n m : Nat} {cs : List Value}
    (ih : ∀ (T : TypeId) (cs : List Value) (x : DataW H × List MemPlace) (ts : List Ty), cellTys P n T = some ts → DataW.trod enc P w base spare held m T cs = some x → (∀ b o, MemPlace.cell b o ∈ x.2 → S b o) → (∀ z ∈ x.1.weights P T, z ≤ K) → ∃ ds, R3 K w S cs ds ts ∧ wtL ds ≤ dwt x.1) :
    ∀ (fs : List Field) (xs : List (DataW H × List MemPlace)) (o : Nat) (ts : List Ty), fieldTys (cellTys P n) P.cellsOf o fs = some ts → cs.length = o + ts.length → xs.length = fs.length →
      (∀ (i : Nat) f, fs[i]? = some f → ∃ x : DataW H × List MemPlace, xs[i]? = some x ∧ DataW.trod enc P w base spare held m f.type ((cs.drop f.offset).take (P.cellsOf f.type)) = some x ∧ (∀ b o, MemPlace.cell b o ∈ x.2 → S b o) ∧ ∀ z ∈ x.1.weights P f.type, z ≤ K) →
      ∃ ds, R3 K w S (cs.drop o) ds ts ∧ wtL ds ≤ dwtL (xs.map (·.1))
  | [], xs, o, ts, h, hl, _, _ => by
    simp only [fieldTys, Option.some.injEq] at h
    subst h
    rw [List.drop_of_length_le (by simp at hl; omega)]
    exact ⟨[], .nil, Nat.zero_le _⟩
  | f :: fs, [], o, ts, h, hl, hxl, _ => by simp at hxl
  | f :: fs, x0 :: xs, o, ts, h, hl, hxl, hx => by
    simp only [fieldTys] at h
    split at h
    · rename_i ho
      split at h
      · rename_i t1 ht1
        split at h
        · rename_i hc
          simp only [Option.map_eq_some_iff] at h
          obtain ⟨t2, ht2, rfl⟩ := h
          obtain ⟨x, hx0, hx1, hx2, hx3⟩ := hx 0 f rfl
          simp only [List.getElem?_cons_zero, Option.some.injEq] at hx0
          subst hx0
          obtain ⟨d1, r1, k1⟩ := ih _ _ _ _ ht1 hx1 hx2 hx3
          rw [List.length_append] at hl
          obtain ⟨d2, r2, k2⟩ := fields_rep (cs := cs) ih fs xs (o + t1.length) t2 ht2 (by omega) (by simpa using hxl) (fun i g hg => by
            obtain ⟨y, hy, hr⟩ := hx (i + 1) g (by simpa using hg)
            exact ⟨y, by simpa using hy, hr⟩)
          refine ⟨d1 ++ d2, ?_, by rw [wtL_append]; simp only [List.map_cons, dwtL]; omega⟩
          have := r1.append r2
          rw [hc, ho] at this
          rw [← List.drop_drop, List.take_append_drop] at this
          exact this
        · cases h
      · cases h
    · cases h

theorem trod_rep : ∀ (n m : Nat) (T : TypeId) (cs : List Value) (x : DataW H × List MemPlace) (ts : List Ty), cellTys P n T = some ts → DataW.trod enc P w base spare held m T cs = some x → (∀ b o, MemPlace.cell b o ∈ x.2 → S b o) → (∀ z ∈ x.1.weights P T, z ≤ K) → ∃ ds, R3 K w S cs ds ts ∧ wtL ds ≤ dwt x.1
  | 0, _, _, _, _, _, h, _, _, _ => by cases h
  | n + 1, m, T, cs, x, ts, h, hx, hS, hwt => by
    unfold cellTys at h
    split at h
    · rename_i hu
      injection h with h; subst h
      obtain ⟨b, rfl, rfl⟩ := DataW.trod_bool hu hx
      exact ⟨[.bool b], .cons (.bool b) (hask_bool.2 ⟨b, rfl⟩) .nil, by simp [wtL, D.wt]⟩
    · rename_i k hu
      injection h with h; subst h
      obtain ⟨i, rfl, rfl, hw⟩ := DataW.trod_int hu hx
      exact ⟨[.int k i], .cons (.int k i) (hask_int.2 ⟨i, rfl, by simpa [Lit.wf, inK] using hw⟩) .nil, by simp [wtL, D.wt]⟩
    · rename_i hu
      injection h with h; subst h
      obtain ⟨s, rfl, rfl, _⟩ := DataW.trod_string hu hx
      exact ⟨[.str s], .cons (.str s) (hask_str.2 ⟨s, rfl⟩) .nil, by simp [wtL, D.wt]⟩
    · rename_i e hu
      split at h
      · rename_i t1 ht1
        split at h
        · rename_i hpos
          obtain ⟨hpos, hce⟩ := hpos
          rw [Option.bind_eq_some_iff] at h
          obtain ⟨t, het, h⟩ := h
          split at h
          case isFalse => cases h
          rename_i hbyt
          injection h with h; subst h
          rcases DataW.trod_slice hu hx with ⟨rfl, _⟩ | ⟨a, len, cap, elems, rest, m', rfl, rfl, hxe, _, hlc, hcm, hle, hel, _⟩
          · exact ⟨[.list []], .cons (.nil none 0) (hask_list.2 ⟨[], rfl, lenOkK_zero _ _, by simp⟩) .nil, by simp [wtL, D.wt]⟩
          · rcases Nat.eq_zero_or_pos len with h0 | h0
            · subst h0
              exact ⟨[.list []], .cons (.nil (some a) cap) (hask_list.2 ⟨[], rfl, lenOkK_zero _ _, by simp⟩) .nil, by simp [wtL, D.wt]⟩
            · rw [hce] at hel
              have hwt' : ∀ z ∈ ((elems.map (·.1)).length + (rest.map (·.1)).length) * P.bytesOf e :: (DataW.weightsAll P e (elems.map (·.1)) ++ DataW.weightsAll P e (rest.map (·.1))), z ≤ K := by
                intro z hz
                refine hwt z ?_
                rw [hxe]
                simp only [DataW.weights, hu]
                exact hz
              -- each element
              have hone : ∀ i, i < len → ∃ (ci : List Value) (d : D), w.cells? base (a.add (i * t1.length)) t1.length = some ci ∧ HasK K t d ∧ d.cells.length = t1.length ∧ (∀ (j : Nat) v c, ci[j]? = some v → d.cells[j]? = some c → Rep w S v c) ∧ ∀ x, elems[i]? = some x → d.wt ≤ dwt x.1 := by
                intro i hi
                have h1 := hel i hi
                have h2 : elems[i]? = some (elems[i]'(by omega)) := List.getElem?_eq_getElem _
                rw [h2, Option.bind_eq_some_iff] at h1
                obtain ⟨ci, hci, hti⟩ := h1
                obtain ⟨di, ri, ki⟩ := trod_rep n m' e ci _ t1 ht1 hti (fun b o hb => hS b o (by
                  rw [hxe]
                  refine List.mem_append_right _ (List.mem_flatMap.2 ⟨elems[i]'(by omega), List.mem_append_left _ (List.getElem_mem _), hb⟩))) (fun z hz => hwt' z (List.mem_cons_of_mem _ (List.mem_append_left _ (weightsAll_mem (List.mem_map.2 ⟨_, List.getElem_mem _, rfl⟩) hz))))
                obtain ⟨d, hd, hdc, _, _, hdw⟩ := elem_of het ri
                refine ⟨ci, d, hci, hd, by rw [hdc]; exact ri.len.2, fun j v c hv hc => ?_, fun x hx => by rw [h2] at hx; injection hx with hx; subst hx; rw [hdw]; exact ki⟩
                rw [hdc] at hc
                exact ri.get j v c hv hc
              obtain ⟨b, off, spot⟩ := a
              have hspot : spot = none := by
                obtain ⟨ci, d, hci, _, _⟩ := hone 0 h0
                obtain ⟨_, hlen, hcell⟩ := World.cells?_some hci
                have g0 := hcell 0 hpos
                obtain ⟨c0, hc0⟩ : ∃ c0, ci[0]? = some c0 := ⟨ci[0]'(by omega), List.getElem?_eq_getElem _⟩
                rw [hc0] at g0
                simpa [Addr.add] using World.cell?_spot g0
              subst hspot
              have hch : ∀ i : Nat, ∃ d : D, i < len → HasK K t d ∧ d.cells.length = t1.length ∧ (∀ (j : Nat) c, d.cells[j]? = some c → ∃ v, w.cell? ⟨b, off + (i * t1.length + j), none⟩ = some v ∧ Rep w S v c) ∧ ∀ x, elems[i]? = some x → d.wt ≤ dwt x.1 := by
                intro i
                by_cases hi : i < len
                · obtain ⟨ci, d, hci, hd, hdl, hrep, hwd⟩ := hone i hi
                  obtain ⟨_, hlen, hcell⟩ := World.cells?_some hci
                  refine ⟨d, fun _ => ⟨hd, hdl, fun j c hc => ?_, hwd⟩⟩
                  have hj : j < t1.length := by rw [← hdl]; exact (List.getElem?_eq_some_iff.1 hc).1
                  have g := hcell j hj
                  rw [add_plain, add_plain] at g
                  have hv : ci[j]? = some (ci[j]'(by omega)) := List.getElem?_eq_getElem _
                  refine ⟨_, ?_, hrep j _ c hv hc⟩
                  rw [← Nat.add_assoc, g, hv]
                · exact ⟨.top, fun h => absurd h hi⟩
              have hch' := fun i => Classical.choose_spec (hch i)
              generalize hD : (fun i => Classical.choose (hch i)) = Df at *
              have hDf : ∀ i, Classical.choose (hch i) = Df i := fun i => by rw [← hD]
              simp only [hDf] at hch'
              refine ⟨[.list ((List.range len).map Df)], .cons ?_ (hask_list.2 ⟨_, rfl, ⟨by simp; omega, ?_⟩, ?_⟩) .nil, ?_⟩
              · have hll : ((List.range len).map Df).length = len := by simp
                have hgo : ∀ (i : Nat) d, ((List.range len).map Df)[i]? = some d → i < len ∧ d = Df i := by
                  intro i d hi
                  have hlt : i < len := by rw [← hll]; exact (List.getElem?_eq_some_iff.1 hi).1
                  simp [hlt] at hi
                  exact ⟨hlt, hi.symm⟩
                have := Rep.list (w := w) (S := S) b off cap t1.length ((List.range (len * t1.length)).map fun j => (w.cell? ⟨b, off + j, none⟩).getD undef) ((List.range len).map Df) hpos
                  (by intro h; have := congrArg List.length h; simp at this; omega) (by rw [hll]; exact hlc) (by simp)
                  (fun i hi => hS b (off + i) (by
                    rw [hxe]
                    refine List.mem_append_left _ (MemPlace.mem_row.2 ⟨i, ?_, rfl⟩)
                    simp at hi
                    rw [hce, hle]
                    exact Nat.lt_of_lt_of_le hi (Nat.mul_le_mul_right _ (by omega))))
                  (fun i v hv => by
                    have hi : i < len * t1.length := by have := (List.getElem?_eq_some_iff.1 hv).1; simpa using this
                    simp [hi] at hv
                    -- the cell is there
                    have hq : i / t1.length < len := (Nat.div_lt_iff_lt_mul hpos).2 hi
                    obtain ⟨_, hdl, hcc, _⟩ := hch' (i / t1.length) hq
                    have hr : i % t1.length < (Df (i / t1.length)).cells.length := by rw [hdl]; exact Nat.mod_lt _ hpos
                    obtain ⟨u, hu', _⟩ := hcc (i % t1.length) _ (List.getElem?_eq_getElem hr)
                    have hi2 : i / t1.length * t1.length + i % t1.length = i := by rw [Nat.mul_comm]; exact Nat.div_add_mod i t1.length
                    rw [hi2] at hu'
                    rw [hu'] at hv ⊢
                    exact congrArg some hv)
                  (fun i d hi => by obtain ⟨h1, rfl⟩ := hgo i d hi; exact (hch' i h1).2.1)
                  (fun i d j v c hi hj hv => by
                    obtain ⟨h1, rfl⟩ := hgo i d hi
                    obtain ⟨_, hdl, hcc, _⟩ := hch' i h1
                    obtain ⟨u, hu', hru⟩ := hcc j c hj
                    have hjl : j < t1.length := by rw [← hdl]; exact (List.getElem?_eq_some_iff.1 hj).1
                    have hlt : i * t1.length + j < len * t1.length := by
                      have : (i + 1) * t1.length ≤ len * t1.length := Nat.mul_le_mul_right _ h1
                      rw [Nat.add_mul] at this; omega
                    simp [hlt, hu'] at hv
                    subst hv
                    exact hru)
                rw [hll] at this
                exact this
              · have h9 := hwt' _ (List.mem_cons_self ..)
                rw [← hbyt]
                simp only [List.length_map, List.length_range, hle] at h9 ⊢
                rw [Nat.add_mul] at h9
                omega
              · intro d hd
                obtain ⟨i, hi, rfl⟩ := List.mem_map.1 hd
                exact (hch' i (List.mem_range.1 hi)).1
              · rw [hxe]
                simp only [wtL, D.wt, dwt, List.length_map, List.length_range]
                have := wtL_le (H := H) (ds := (List.range len).map Df) (xs := elems.map (·.1)) (by simp [hle]) (fun i d x hd hx => by
                  have hlt : i < len := by have := (List.getElem?_eq_some_iff.1 hd).1; simpa using this
                  simp [hlt] at hd
                  subst hd
                  rw [List.getElem?_map, Option.map_eq_some_iff] at hx
                  obtain ⟨y, hy, rfl⟩ := hx
                  exact (hch' i hlt).2.2.2 y hy)
                omega
        · cases h
      · cases h
    · rename_i fs hu
      split at h
      · rename_i t1 ht1
        split at h
        · rename_i hct
          injection h with h; subst h
          obtain ⟨xs, m', rfl, rfl, hl, hxl, hf⟩ := DataW.trod_struct hu hx
          have := fields_rep (S := S) (cs := cs) (n := n) (m := m') (enc := enc) (base := base) (spare := spare) (held := held) (fun T cs x ts => trod_rep n m' T cs x ts) fs.toList xs 0 t1 ht1 (by omega) (by simpa using hxl) (fun i f hi => by
            rw [Array.getElem?_toList] at hi
            have hxi := hf i f hi
            have hil : i < xs.length := by rw [hxl]; exact (Array.getElem?_eq_some_iff.1 hi).1
            rw [List.getElem?_eq_getElem hil] at hxi
            refine ⟨_, List.getElem?_eq_getElem hil, hxi, fun b o hb => hS b o (List.mem_flatMap.2 ⟨_, List.getElem_mem hil, hb⟩), fun z hz => hwt z ?_⟩
            simp only [DataW.weights, hu]
            exact weightsEach_mem i (by simp [hi]) (by simp [List.getElem?_eq_getElem hil]) hz)
          simpa [dwt] using this
        · cases h
      · cases h
    · rename_i k e hu
      split at h
      · rename_i t1 ht1
        split at h
        · rename_i hct
          injection h with h; subst h
          obtain ⟨xs, m', rfl, rfl, hl, hxl, hf⟩ := DataW.trod_array hu hx
          have hfi : ∀ (i : Nat) f, (arrFields (P.cellsOf e) e k)[i]? = some f → i < k ∧ f.type = e ∧ f.offset = i * P.cellsOf e := by
            intro i f hi
            unfold arrFields at hi
            rw [List.getElem?_map, Option.map_eq_some_iff] at hi
            obtain ⟨j, hj, rfl⟩ := hi
            obtain ⟨hjk, hji⟩ := List.getElem?_eq_some_iff.1 hj
            rw [List.length_range] at hjk
            rw [List.getElem_range] at hji
            exact ⟨hjk, rfl, by rw [← hji]⟩
          have := fields_rep (S := S) (cs := cs) (n := n) (m := m') (enc := enc) (base := base) (spare := spare) (held := held) (fun T cs x ts => trod_rep n m' T cs x ts) (arrFields (P.cellsOf e) e k) xs 0 t1 ht1 (by omega) (by simp [arrFields, hxl]) (fun i f hi => by
            obtain ⟨hik, e1, e2⟩ := hfi i f hi
            have hxi := hf i hik
            have hil : i < xs.length := by rw [hxl]; exact hik
            rw [List.getElem?_eq_getElem hil] at hxi
            rw [e1, e2]
            refine ⟨_, List.getElem?_eq_getElem hil, hxi, fun b o hb => hS b o (List.mem_flatMap.2 ⟨_, List.getElem_mem hil, hb⟩), fun z hz => hwt z ?_⟩
            simp only [DataW.weights, hu]
            exact weightsAll_mem (List.mem_map.2 ⟨_, List.getElem_mem hil, rfl⟩) hz)
          simpa [dwt] using this
        · cases h
      · cases h
    · cases h
end
end Go.Eng
/- Which variables a loop may change, read off its code: an aid to find annotations; nothing hangs on its being right. -/
namespace Go.Eng
open Go

def opsOf : Code → List Oper
  | .region _ ops _ => ops.toList
  | .seq a b => opsOf a ++ opsOf b
  | .cond _ a b => opsOf a ++ opsOf b
  | .block _ c | .loop c | .scope c => opsOf c
  | .rangeFunc _ _ a b => opsOf a ++ opsOf b
  | _ => []
/-- The variable, or the temporary, that a map was taken from. -/
def mapBase (ops : List Oper) (t : Nat) : Nat := match ops.find? (fun o => o.dst == some t) with
  | some o => match o.op with
    | .load _ (.tmp x) | .move (.tmp x) => x
    | _ => t
  | none => t
def baseOf (ops : List Oper) : Nat → Nat → Nat
  | 0, t => t
  | f + 1, t => match ops.find? (fun o => o.dst == some t) with
    | some o => match o.op with
      | .fieldAddr _ (.tmp x) _ => baseOf ops f x
      | .nilCheck (.tmp x) | .move (.tmp x) => baseOf ops f x
      | _ => t
    | none => t
def storedIn (ops : List Oper) (c : Code) : List Nat :=
  dedup ((opsOf c).flatMap fun o => match o.op with
    | .store _ (.tmp x) _ => [baseOf ops 10 x]
    | .mapUpdate _ (.tmp x) _ _ => [mapBase ops x]
    | .call { callee := .value _, args, .. } => args.toList.filterMap fun x => match x with | .tmp t => some (baseOf ops 10 t) | _ => none
    | _ => [])
def loopsIn : Code → List (Nat × Code)
  | .seq a b => loopsIn a ++ loopsIn b
  | .cond _ a b => loopsIn a ++ loopsIn b
  | .block _ c | .scope c => loopsIn c
  | .loop c => (match firstReg c with | some i => [(i, c)] | none => []) ++ loopsIn c
  | .rangeFunc _ _ a b => (match firstReg a with | some i => [(i, .seq a b)] | none => []) ++ loopsIn b
  | _ => []
/-- The slices among a type's cells, and their elements' types. -/
def sliceCells (P : Program) : Nat → Nat → TypeId → List (Nat × TypeId)
  | 0, _, _ => []
  | n + 1, off, t => match P.underlying t with
    | some (.slice e) => [(off, e)]
    | some (.struct fs) => fs.toList.flatMap fun f => sliceCells P n (off + f.offset) f.type
    | _ => []
def allocTy (ops : List Oper) (t : Nat) : Option TypeId := match ops.find? (fun o => o.dst == some t) with
  | some o => match o.op with
    | .alloc T => some T
    | .box T _ => some T
    | _ => none
  | none => none
def ownTemps (P : Program) (ops : List Oper) : List (Nat × TypeId) := ops.filterMap fun o => match o.dst with
  | some t => match P.underlying o.type with
    | some (.slice e) => some (t, e)
    | _ => none
  | none => none
/-- What a pointer points to, by a call that is handed it. -/
def argPtr (P : Program) (all ops : List Oper) (t : Nat) : Option TypeId := ops.findSome? fun o => match o.op with
  | .call { callee := .value _, args, argTypes } => (args.toList.zip argTypes.toList).findSome? fun x => match x.1 with
    | .tmp t' => if baseOf all 10 t' = t then (match P.underlying x.2 with | some (.pointer e) => some e | _ => none) else none
    | _ => none
  | _ => none
/-- Each loop: all variables that are stored to in it, their slices as owned ones; as given, where something is given. -/
def autoAnn (P : Program) (given : List (Nat × Ann)) (c : Option Code) : List (Nat × Ann) :=
  match c with
  | some c => ((loopsIn c).map fun x => let g := (lk given x.1).getD {}
      (x.1, { own := ((ownTemps P (opsOf x.2)).filter fun y => !g.own.contains (y.1, 0)) ++ g.own.filter (fun y => y.2 != 0), boxes := ((storedIn (opsOf c) x.2).map fun t => (t, match (allocTy (opsOf c) t).orElse (fun _ => argPtr P (opsOf c) (opsOf x.2) t) with | some T => sliceCells P 4 0 T | none => [])) ++ g.boxes, drop := g.drop })) ++ given
  | none => given
/-- A loop's condition, kept shut. -/
def LoopOk (init : List D) (tys : List Ty) (body : List D → (List D → Prop) → Prop) : Prop :=
  ∃ (I : List D → Prop) (m : List D → Nat), I init ∧ ∀ xs, HasL (.ofL tys) xs → I xs → body xs (fun ys => I ys ∧ m ys < m xs)
theorem LoopOk.intro {init : List D} {tys : List Ty} {body : List D → (List D → Prop) → Prop} (I : List D → Prop) (m : List D → Nat) (h0 : I init)
    (h : ∀ xs, HasL (.ofL tys) xs → I xs → body xs (fun ys => I ys ∧ m ys < m xs)) : LoopOk init tys body := ⟨I, m, h0, h⟩
/-- A loop over a function: L: what comes. -/
def RangeOk (L : List D) (et : Ty) (init : List D) (tys : List Ty) (body : D → List D → (List D → Prop) → Prop) (done : List D → Prop) : Prop :=
  ∃ I : Nat → List D → Prop, I 0 init ∧ (∀ i x xs, L[i]? = some x → Has et x → HasL (.ofL tys) xs → I i xs → body x xs (fun ys => I (i + 1) ys)) ∧ ∀ xs, HasL (.ofL tys) xs → I L.length xs → done xs
theorem RangeOk.intro {L : List D} {et : Ty} {init : List D} {tys : List Ty} {body : D → List D → (List D → Prop) → Prop} {done : List D → Prop} (I : Nat → List D → Prop) (h0 : I 0 init)
    (h : ∀ i x xs, L[i]? = some x → Has et x → HasL (.ofL tys) xs → I i xs → body x xs (fun ys => I (i + 1) ys)) (hd : ∀ xs, HasL (.ofL tys) xs → I L.length xs → done xs) : RangeOk L et init tys body done := ⟨I, h0, h, hd⟩
section
variable {Φ : Nat → List D → D} {Pre : Nat → List D → Prop} {R : D → Prop} {ρ : Nat → D} {stk : List (List D → Prop)}
theorem vh_range {v0 f : Nat} {args : E} {es : List E} {tys : List Ty} {et : Ty} {body done : VC} : (VC.range v0 f args es tys et body done).holds Φ Pre R ρ stk = (Pre f (den ρ args).toL ∧ RangeOk (Φ f (den ρ args).toL).toL et (es.map (den ρ)) tys
    (fun x xs J => body.holds Φ Pre R (upd (updV ρ v0 xs) (v0 + tys.length) x) (J :: stk)) (fun xs => done.holds Φ Pre R (updV ρ v0 xs) stk)) := rfl
theorem vh_obl {pc : Cond} {e : E} {k : VC} : (VC.obl pc e k).holds Φ Pre R ρ stk = ((condB ρ pc = true → (den ρ e).toB = true) ∧ k.holds Φ Pre R ρ stk) := rfl
theorem vh_call {p f : Nat} {args : E} {pc : Cond} {k : VC} : (VC.call p f args pc k).holds Φ Pre R ρ stk = ((condB ρ pc = true → Pre f (den ρ args).toL) ∧ k.holds Φ Pre R (upd ρ p (Φ f (den ρ args).toL)) stk) := by
  simp only [VC.holds, forall_eq]
theorem vh_room {pc : Cond} {e : E} {b : Nat} {k : VC} : (VC.room pc e b k).holds Φ Pre R ρ stk = ((condB ρ pc = true → (den ρ e).toL.length ≤ maxLen ∧ (den ρ e).toL.length * b ≤ 140737488355328) ∧ k.holds Φ Pre R ρ stk) := rfl
theorem vh_branch {e : E} {t f : VC} : (VC.branch e t f).holds Φ Pre R ρ stk = (((den ρ e).toB = true → t.holds Φ Pre R ρ stk) ∧ ((den ρ e).toB = false → f.holds Φ Pre R ρ stk)) := rfl
theorem vh_loop {v0 : Nat} {es : List E} {tys : List Ty} {body : VC} : (VC.loop v0 es tys body).holds Φ Pre R ρ stk = LoopOk (es.map (den ρ)) tys (fun xs J => body.holds Φ Pre R (updV ρ v0 xs) (J :: stk)) := rfl
theorem vh_again {i : Nat} {es : List E} : (VC.again i es).holds Φ Pre R ρ stk = (match stk[i]? with | some J => J (es.map (den ρ)) | none => False) := rfl
theorem vh_ret {e : E} : (VC.ret e).holds Φ Pre R ρ stk = R (den ρ e) := rfl
end
/-- Which temporaries are slices of their own kind: kept under a number that is no loop's; 1000000 stands for all appends, 1000001 for all literals but appends' elements. -/
def exOf (given : List (Nat × Ann)) (c : Option Code) : List Nat :=
  let l := ((lk given 1000000).getD {}).drop
  let ops := match c with | some c => opsOf c | none => []
  l ++ (if l.contains 1000000 then ops.filterMap fun o => match o.op with | .call { callee := .builtin .append, .. } => o.dst | _ => none else []) ++
    (if l.contains 1000001 then
      let els := ops.filterMap fun o => match o.op with | .call { callee := .builtin .append, args, .. } => (match args.toList with | [_, .tmp t] => some t | _ => none) | _ => none
      ops.filterMap fun o => match o.op with | .buildSlice .. => (match o.dst with | some d => if els.contains d then none else some d | none => none) | _ => none
    else [])
/-- The condition of a function that is handed objects. -/
def fvcO (P : Program) (cs : List (Nat × Sig)) (given : List (Nat × Ann)) (sig : Sig) (fn : Func) : VC :=
  match fn.body, sig.ob with
  | some c, some ob => vc ⟨P, ⟨cs, exOf given fn.body, 0, [], []⟩, fn.ntmps, autoAnn P given fn.body, [], [], []⟩ c (fun ex σ _ _ => match ex with | .exit _ => .stuck 20 | _ => retVCo P sig ob fn σ) (St.startO sig ob) sig.params.length 0
  | _, _ => .stuck 30
theorem objFn_auto {P : Program} {f : Nat} {fn : Func} {sig : Sig} {ob : Ob} {Pre0 : List D → Prop} {Φ0 : List D → D} {cs : List (Nat × Sig)} {Φ : Nat → List D → D} {Pre : Nat → List D → Prop} {given : List (Nat × Ann)} {v : VC}
    (hmix : P.follows .mixedOrders = true) (hcon : Con P Pre Φ cs) (hf : P.funcs[f]? = some fn) (hob : sig.ob = some ob) (hB : obB fn sig ob = true) (hv : fvcO P cs given sig fn = v)
    (hc : ∀ ds, HasL (.ofL sig.params) ds → Pre0 ds → v.holds Φ Pre (fun d => d = Φ0 ds) (fun i => ds.getD i .top) []) (hnp : noPl cs = true := by rfl) : PureFn P f sig Pre0 Φ0 := by
  have hB' := hB
  unfold obB at hB'
  simp only [Bool.and_eq_true] at hB'
  obtain ⟨c, hb⟩ := Option.isSome_iff_exists.1 hB'.1.1.1.1.1.1.1.1.1.1
  refine objFn_of_vc ⟨cs, exOf given fn.body, 0, [], []⟩ Φ Pre (autoAnn P given fn.body) v hf hb hmix hob ⟨rfl, rfl⟩ hB hnp rfl hcon ?_ hc
  unfold fvcO at hv
  rw [hob, hb] at hv
  rw [hb]
  exact hv
def fvcA (P : Program) (cs : List (Nat × Sig)) (given : List (Nat × Ann)) (sig : Sig) (fn : Func) : VC := fvc P ⟨cs, exOf given fn.body, 0, [], []⟩ (autoAnn P given fn.body) sig fn
theorem pureFn_auto {P : Program} {f : Nat} {fn : Func} {sig : Sig} {Pre0 : List D → Prop} {Φ0 : List D → D} {cs : List (Nat × Sig)} {Φ : Nat → List D → D} {Pre : Nat → List D → Prop} {given : List (Nat × Ann)} {v : VC}
    (hmix : P.follows .mixedOrders = true) (hcon : Con P Pre Φ cs) (hf : P.funcs[f]? = some fn) (hB : fnB fn sig = true) (hv : fvcA P cs given sig fn = v)
    (hc : ∀ ds, HasL (.ofL sig.params) ds → Pre0 ds → v.holds Φ Pre (fun d => d = Φ0 ds) (fun i => ds.getD i .top) []) (hnf : noFr sig.res = true := by rfl) : PureFn P f sig Pre0 Φ0 :=
  pureFn_of hmix hcon (by simp [frB, hnf]) hf hB hv ⟨rfl, rfl⟩ hc
/-- The same, in the mode in which what is made leans on new blocks alone. -/
def fvcP (P : Program) (cs : List (Nat × Sig)) (given : List (Nat × Ann)) (sig : Sig) (fn : Func) : VC := fvc P ⟨cs, [], 1, [], []⟩ (autoAnn P given fn.body) sig fn
theorem pureFn_autoF {P : Program} {f : Nat} {fn : Func} {sig : Sig} {Pre0 : List D → Prop} {Φ0 : List D → D} {cs : List (Nat × Sig)} {Φ : Nat → List D → D} {Pre : Nat → List D → Prop} {given : List (Nat × Ann)} {v : VC}
    (hmix : P.follows .mixedOrders = true) (hcon : Con P Pre Φ cs) (hf : P.funcs[f]? = some fn) (hB : fnB fn sig = true) (hv : fvcP P cs given sig fn = v)
    (hc : ∀ ds, HasL (.ofL sig.params) ds → Pre0 ds → v.holds Φ Pre (fun d => d = Φ0 ds) (fun i => ds.getD i .top) []) : PureFn P f sig Pre0 Φ0 :=
  pureFn_of hmix hcon (by simp [frB]) hf hB hv ⟨rfl, rfl⟩ hc
end Go.Eng
/- Functions that make all that they give in new blocks. -/
namespace Go.Eng
open Go Go.RowKit

theorem Rep.fresh {N : Nat → Prop} {w : World} {S : Foot} {v : Value} {d : D} (h : Rep w S v d) (hv : ValIn (FrB N w S) v) : Rep w (fun b o => S b o ∧ N b ∧ ∃ cur T, w.heap[b]? = some (.cells cur T (0, 0))) v d := by
  induction h with
  | int k n => exact .int k n
  | bool b => exact .bool b
  | str s => exact .str s
  | agg cs ds hl _ ih => exact hv.elim
  | tup cs ds hl _ ih => exact hv.elim
  | nilp => exact hv.elim
  | ptr b cs ds hl hs hc _ ih => exact hv.elim
  | nil a cap => exact .nil a cap
  | list b off cap sz xs ds hsz hne hcap hl hs hc hw _ ih =>
    rcases hv with hv | ⟨b', o', h1, h2⟩
    · exact absurd (List.eq_nil_of_length_eq_zero hv) hne
    · simp only [Option.some.injEq, Addr.mk.injEq] at h1
      obtain ⟨rfl, _⟩ := h1
      obtain ⟨hN, _, hcz, h3⟩ := FrB.set N w S b h2
      refine .list b off cap sz xs ds hsz hne hcap hl (fun i hi => ⟨hs i hi, hN, hcz⟩) hc hw (fun i d j v c h4 h5 h6 => ih i d j v c h4 h5 h6 ?_)
      have hlt := (List.getElem?_eq_some_iff.1 h6).1
      exact h3 _ v (hs _ hlt) (hc _ v h6)
  | fn f cs ds hl _ ih => exact hv.elim

/-- One result's type. -/
def compTy (c : Bool × List RCell) : Ty := if c.1 then .agg (.ofL (c.2.map rcTy)) else match c.2 with
  | [x] => rcTy x
  | _ => .nil
def cellFr (x : RCell) : Bool := match x.2 with
  | some (j, _) => !exN j
  | none => x.1.bare
def freshRes (c : Bool × List RCell) : Bool := c.2.all cellFr

theorem OwnD.rep {w : World} {S : Foot} {T : TypeId} {t : Ty} {v : Value} {d : D} (h : OwnD false w 0 S T t v d) : Rep w S v d := by
  have := OwnD.ok (C := ⟨fun _ => d, 1, fun _ => True⟩) (G := ⟨S, fun _ => 0, fun _ => v⟩) (g := (0, 0)) (e := .var 0) h trivial rfl rfl rfl rfl
  exact this.rep h.sz

theorem CellOk.freshRep {N : Nat → Prop} {w : World} {S : Foot} {τ : Nat → Value} {x : RCell} {v : Value} {d : D} (h : CellOk w 0 S τ x v d) (hfr : ∀ j, FrV N w S (τ j)) (hx : cellFr x = true) :
    Rep w (fun b o => S b o ∧ N b ∧ ∃ cur T, w.heap[b]? = some (.cells cur T (0, 0))) v d ∧ Has (rcTy x) d := by
  obtain ⟨t, _ | ⟨j, T⟩⟩ := x
  · exact ⟨rep_bare hx h.2 h.1, h.2⟩
  · obtain ⟨h1, h2⟩ := h
    have hej : exN j = false := by simpa [cellFr] using hx
    rw [hej] at h2
    have hr := h2.rep
    refine ⟨?_, h2.has⟩
    subst h1
    obtain ⟨l, hl, _⟩ := has_list.1 h2.has
    rw [hl] at hr ⊢
    obtain ⟨a, cap, hv⟩ := hr.inv_list
    exact hr.fresh (hfr j a _ cap hv)

theorem CompOk.freshRep {N : Nat → Prop} {w : World} {S : Foot} {τ : Nat → Value} {c : Bool × List RCell} {v : Value} {d : D} (h : CompOk w 0 S τ c v d) (hfr : ∀ j, FrV N w S (τ j)) (hx : freshRes c = true) :
    Rep w (fun b o => S b o ∧ N b ∧ ∃ cur T, w.heap[b]? = some (.cells cur T (0, 0))) v d ∧ Has (compTy c) d := by
  have hx' := List.all_eq_true.1 hx
  unfold CompOk at h
  unfold compTy
  split at h
  · rename_i hc
    rw [if_pos hc]
    obtain ⟨vs, ds, rfl, rfl, h1, h2, h3⟩ := h
    refine ⟨.agg vs ds (by omega) fun i u y hu hy => ?_, has_agg.2 ⟨ds, rfl, hasL_mk (by simpa using h2) fun j u x hj hxx => ?_⟩⟩
    · have hi : i < c.2.length := by rw [← h1]; exact (List.getElem?_eq_some_iff.1 hu).1
      exact ((h3 i _ u y (List.getElem?_eq_getElem hi) hu hy).freshRep hfr (hx' _ (List.getElem_mem hi))).1
    · simp only [List.getElem?_map, Option.map_eq_some_iff] at hj
      obtain ⟨r, hr, rfl⟩ := hj
      have hjl : j < c.2.length := (List.getElem?_eq_some_iff.1 hr).1
      exact ((h3 j r _ x hr (List.getElem?_eq_getElem (by omega)) hxx).freshRep hfr (hx' _ (List.mem_of_getElem? hr))).2
  · rename_i hc
    rw [if_neg hc]
    obtain ⟨x, hxx, h1⟩ := h
    rw [hxx]
    exact h1.freshRep hfr (hx' _ (by rw [hxx]; simp))

section
variable {P : Program}
theorem freshFn_of_vc {f : Nat} {fn : Func} {c : Code} {sig : Sig} {r : Bool × List RCell} {Pre0 : List D → Prop} {Φ0 : List D → D} (cs : Tbl) (Φ : Nat → List D → D) (Pre : Nat → List D → Prop) (anns : List (Nat × Ann)) (v : VC)
    (hf : P.funcs[f]? = some fn) (hb : fn.body = some c) (hname : (fn.name == "runtime.NumGoroutine") = false) (hmix : P.follows .mixedOrders = true)
    (hps : sig.params.length ≤ fn.ntmps) (hmp : cs.mp = [] ∧ cs.et = []) (hcf : cs.fr = 1) (hres : sig.res = [r]) (hfr : freshRes r = true)
    (hcon : ∀ k sig, lk cs.l k = some sig → PureFn P k sig (Pre k) (Φ k))
    (hv : vc ⟨P, cs, fn.ntmps, anns, [], [], []⟩ c (fun ex σ _ _ => match ex with | .exit _ => .stuck 20 | _ => retVC P sig fn σ) (St.start sig.params) sig.params.length 0 = v)
    (hc : ∀ ds, HasL (.ofL sig.params) ds → Pre0 ds → v.holds Φ Pre (fun d => d = Φ0 ds) (fun i => ds.getD i .top) []) : FreshFn P f sig.params (compTy r) Pre0 Φ0 where
  enter args w := by
    unfold callFunc
    have hbs : fn.body.isNone = false := by rw [hb]; rfl
    have hname' : fn.name ≠ "runtime.NumGoroutine" := by simpa using hname
    simp [hf, hb, hname']
  calls w S vs ds hSlt hlen hrep hty hpre := by
    have hdl : ds.length = sig.params.length := by rw [hasL_len hty, Ty.toL_ofL]
    refine calls_of_wp hf hb ?_
    have hcond := hc ds hty hpre
    rw [← hv] at hcond
    refine vc_sound (w0 := w) (S0 := ⟨S, fun _ => False, fun _ => none, True, False, P, []⟩) (N := ⟨P, cs, fn.ntmps, anns, [], [], []⟩) hmix hcon (fun _ _ _ _ _ _ b o hb => by
      rintro (h | h)
      · exact absurd (hSlt b o hb) (by show ¬ b < w.heap.size; have : w.heap.size ≤ b := h; omega)
      · exact h) ⟨fun _ => hcf, fun h => h.elim, rfl, fun T kt h => (by rw [show cs.mp = [] from hmp.1] at h; cases h), fun k sg h => (by rw [show cs.et = [] from hmp.2] at h; cases h)⟩ (fun _ _ h => by cases h) (fun _ _ h => by cases h) (fun h => by have : cs.fr = 2 := h; omega) rfl c _ _ _ 0 _ [] _ hcond rfl (fun i b h => (by cases h)) ?_ _ w ⟨S, fun _ => 0, fun _ => .nilIface⟩ ?_
    · intro ex σ' p' d' ρ' stk' a' w' G' _ _ _ _ hk hs
      have fin : (retVC P sig fn σ').holds Φ Pre (fun d => d = Φ0 ds) ρ' stk' → a'.defers = [] ∧ ∃ v, (results fn a'.tmps).run P w' = .ok v w' ∧ ∃ v0 F, Ending.returned v = .returned v0 ∧ Below w.heap.size w w' ∧ (∀ b o, F b o → w.heap.size ≤ b ∧ b < w'.heap.size ∧ ∃ cur T, w'.heap[b]? = some (.cells cur T (0, 0))) ∧
          Rep w' F v0 (Φ0 ds) ∧ Has (compTy r) (Φ0 ds) := by
        intro hk
        refine ⟨hs.defers, ?_⟩
        unfold retVC at hk
        split at hk
        · rename_i es l hret
          split at hk
          · rename_i hok
            unfold ownOkB at hok
            simp only [Bool.and_eq_true, decide_eq_true_eq] at hok
            obtain ⟨hnt, hnj⟩ := hok
            obtain ⟨us, h1, h2, h3, h4, h5⟩ := run_retComps (L := l) hs hnj hret (fun x hx => hx)
            rw [hres] at h2 h3 h5 hk
            obtain ⟨u, rfl⟩ : ∃ u, us = [u] := List.length_eq_one_iff.1 h2
            obtain ⟨e, rfl⟩ : ∃ e, es = [e] := List.length_eq_one_iff.1 h3
            have hd : den ρ' e = Φ0 ds := hk
            have h6 := h5 0 r u e rfl rfl rfl
            rw [show den (Cx.ρ ⟨ρ', p', fun i => i < p'⟩) e = Φ0 ds from hd] at h6
            obtain ⟨h7, h8⟩ := h6.freshRep (N := NewB w ⟨S, fun _ => False, fun _ => none, True, False, P, []⟩) (fun j => by
              unfold τOf
              split
              · exact hs.m.fresh trivial _
              · intro a n cap hv
                exact .inl rfl) hfr
            refine ⟨_, run_results h1, u, _, rfl, hs.m.below.to (fun _ h => h), fun b o hb => ⟨?_, hs.m.footlt b o hb.1, hb.2.2⟩, h7, h8⟩
            exact hb.2.1.elim (fun h => h) (fun h => h.elim)
          · exact hk.elim
        · exact hk.elim
      cases ex with
      | normal => exact fin hk
      | ret => exact fin hk
      | exit i => exact hk.elim
    · refine ⟨⟨BelowX.refl _ _, fun _ _ h => h, fun _ _ _ => rfl, fun i b h => (by cases h), fun i b h => (by cases h), hSlt, fun _ _ h => .inl h, ?_, ?_, ?_, ?_, fun g x b hx => (by cases hx), ?_, ?_, fun _ _ => FrV.nilIface, fun h => h.elim⟩, ?_, ?_, rfl⟩
      · intro id x hx; cases hx
      · intro id ro cs hx; cases hx
      · intro i j x y hx; cases hx
      · intro g e T t hx; cases hx
      · intro g g' x y b hx; cases hx
      · intro g id x y b hx; cases hx
      · intro t c s hts
        simp only [St.start] at hts
        split at hts
        · rename_i ty hty'
          injection hts with hts; simp only [Prod.mk.injEq] at hts; obtain ⟨rfl, rfl⟩ := hts
          have htl : t < sig.params.length := (List.getElem?_eq_some_iff.1 hty').1
          have hdt : ds[t]? = some (ds[t]'(by omega)) := List.getElem?_eq_getElem _
          have hvt : vs[t]? = some (vs[t]'(by omega)) := List.getElem?_eq_getElem _
          obtain ⟨x, hx, hxh⟩ := hasL_get hty t ty (by rw [Ty.toL_ofL]; exact hty')
          rw [hdt] at hx; injection hx with hx
          have hden : den (fun i => ds.getD i .top) (.var t) = ds[t]'(by omega) := by show ds.getD t .top = _; exact toL_getD hdt
          refine ⟨vs[t]'(by omega), ?_, by simp, by simpa [SV.lt, SC.lt, E.lt] using htl, ?_⟩
          · rw [Array.getElem?_append_left (by simp; omega)]; simp [hvt]
          · simp only [condB, List.all_nil, if_true]
            refine ⟨by simpa [E.lt] using htl, ?_, ?_⟩
            · show Rep w S _ (den (fun i => ds.getD i .top) (.var t))
              rw [hden]; exact hrep t _ _ hvt hdt
            · show Has ty (den (fun i => ds.getD i .top) (.var t))
              rw [hden, hx]; exact hxh
        · cases hts
      · simp; omega
end

/-- No slices of their own among the results. -/
theorem CompOk.plainRep {w : World} {S : Foot} {τ : Nat → Value} {c : Bool × List RCell} {v : Value} {d : D} (h : CompOk w 0 S τ c v d) (hx : (c.2.all fun x => x.2.isNone) = true) : Rep w S v d ∧ Has (compTy c) d := by
  have hx' := List.all_eq_true.1 hx
  have cell : ∀ x ∈ c.2, ∀ v d, CellOk w 0 S τ x v d → Rep w S v d ∧ Has (rcTy x) d := by
    rintro ⟨t, x⟩ hm v d h
    have := hx' _ hm
    cases x with
    | none => exact h
    | some y => cases this
  unfold CompOk at h
  unfold compTy
  split at h
  · rename_i hc
    rw [if_pos hc]
    obtain ⟨vs, ds, rfl, rfl, h1, h2, h3⟩ := h
    refine ⟨.agg vs ds (by omega) fun i u y hu hy => ?_, has_agg.2 ⟨ds, rfl, hasL_mk (by simpa using h2) fun j u x hj hxx => ?_⟩⟩
    · have hi : i < c.2.length := by rw [← h1]; exact (List.getElem?_eq_some_iff.1 hu).1
      exact (cell _ (List.getElem_mem hi) _ _ (h3 i _ u y (List.getElem?_eq_getElem hi) hu hy)).1
    · simp only [List.getElem?_map, Option.map_eq_some_iff] at hj
      obtain ⟨r, hr, rfl⟩ := hj
      have hjl : j < c.2.length := (List.getElem?_eq_some_iff.1 hr).1
      exact (cell _ (List.mem_of_getElem? hr) _ _ (h3 j r _ x hr (List.getElem?_eq_getElem (by omega)) hxx)).2
  · rename_i hc
    rw [if_neg hc]
    obtain ⟨x, hxx, h1⟩ := h
    rw [hxx]
    exact cell _ (by rw [hxx]; simp) _ _ h1

section
variable {P : Program}
theorem wildFn_of_vc {f : Nat} {fn : Func} {c : Code} {sig : Sig} {r : Bool × List RCell} (cs : Tbl) (Φ : Nat → List D → D) (Pre : Nat → List D → Prop) (anns : List (Nat × Ann)) (v : VC)
    (hf : P.funcs[f]? = some fn) (hb : fn.body = some c) (hname : (fn.name == "runtime.NumGoroutine") = false) (hmix : P.follows .mixedOrders = true)
    (hps : sig.params.length ≤ fn.ntmps) (hmp : cs.mp = [] ∧ cs.et = []) (hcf : cs.fr = 2) (hres : sig.res = [r]) (hfr : (r.2.all fun x => x.2.isNone) = true)
    (hcon : ∀ k sig, lk cs.l k = some sig → PureFn P k sig (Pre k) (Φ k))
    (hv : vc ⟨P, cs, fn.ntmps, anns, [], [], []⟩ c (fun ex σ _ _ => match ex with | .exit _ => .stuck 20 | _ => retVC P sig fn σ) (St.start sig.params) sig.params.length 0 = v)
    (hc : ∀ ds, HasL (.ofL sig.params) ds → v.holds Φ Pre (fun _ => True) (fun i => ds.getD i .top) []) : WildFn P f sig.params (compTy r) where
  enter args w := by
    unfold callFunc
    have hbs : fn.body.isNone = false := by rw [hb]; rfl
    have hname' : fn.name ≠ "runtime.NumGoroutine" := by simpa using hname
    simp [hf, hb, hname']
  calls w S vs ds hS hlen hrep hty := by
    have hdl : ds.length = sig.params.length := by rw [hasL_len hty, Ty.toL_ofL]
    refine calls_of_wp hf hb ?_
    have hcond := hc ds hty
    rw [← hv] at hcond
    refine vc_sound (w0 := w) (S0 := ⟨fun _ _ => False, fun b => ∃ o, S b o, fun _ => none, False, True, P, []⟩) (N := ⟨P, cs, fn.ntmps, anns, [], [], []⟩) hmix hcon (fun _ _ _ _ _ _ b o hb => hb.elim)
      ⟨fun h => h.elim, fun _ => hcf, rfl, fun T kt h => (by rw [show cs.mp = [] from hmp.1] at h; cases h), fun k sg h => (by rw [show cs.et = [] from hmp.2] at h; cases h)⟩ (fun _ _ h => by cases h) (fun _ _ h => by cases h) (fun _ => ⟨fun _ _ h => h, trivial⟩) rfl c _ _ _ 0 _ [] _ hcond rfl (fun i b h => (by cases h)) ?_ _ w ⟨S, fun _ => 0, fun _ => .nilIface⟩ ?_
    · intro ex σ' p' d' ρ' stk' a' w' G' _ _ _ _ hk hs
      have fin : (retVC P sig fn σ').holds Φ Pre (fun _ => True) ρ' stk' → a'.defers = [] ∧ ∃ v, (results fn a'.tmps).run P w' = .ok v w' ∧ ∃ v0 S' d, Ending.returned v = .returned v0 ∧ BelowX (fun b => ∃ o, S b o) w w' ∧ (∀ b o, S' b o → (∃ o', S b o') ∨ w.heap.size ≤ b) ∧
          (∀ b o, S' b o → b < w'.heap.size ∧ ∃ cur T, w'.heap[b]? = some (.cells cur T (0, 0))) ∧ Rep w' S' v0 d ∧ Has (compTy r) d := by
        intro hk
        refine ⟨hs.defers, ?_⟩
        unfold retVC at hk
        split at hk
        · rename_i es l hret
          split at hk
          · rename_i hok
            unfold ownOkB at hok
            simp only [Bool.and_eq_true, decide_eq_true_eq] at hok
            obtain ⟨hnt, hnj⟩ := hok
            obtain ⟨us, h1, h2, h3, h4, h5⟩ := run_retComps (L := l) hs hnj hret (fun x hx => hx)
            rw [hres] at h2 h3 h5
            obtain ⟨u, rfl⟩ : ∃ u, us = [u] := List.length_eq_one_iff.1 h2
            obtain ⟨e, rfl⟩ : ∃ e, es = [e] := List.length_eq_one_iff.1 h3
            obtain ⟨h7, h8⟩ := (h5 0 r u e rfl rfl rfl).plainRep hfr
            refine ⟨_, run_results h1, u, G'.S, _, rfl, hs.m.below, fun b o hb => ?_, fun b o hb => ⟨hs.m.footlt b o hb, hs.m.wz trivial b o hb⟩, h7, h8⟩
            rcases hs.m.footnew b o hb with h | h | h
            · exact h.elim
            · exact .inr h
            · exact .inl h
          · exact hk.elim
        · exact hk.elim
      cases ex with
      | normal => exact fin hk
      | ret => exact fin hk
      | exit i => exact hk.elim
    · refine ⟨⟨BelowX.refl _ _, fun _ _ h => h.elim, fun _ _ h => h.elim, fun i b h => (by cases h), fun i b h => (by cases h), fun b o hb => (hS b o hb).1, fun b o hb => .inr (.inr ⟨o, hb⟩), ?_, ?_, ?_, ?_, fun g x b hx => (by cases hx), ?_, ?_, fun h => h.elim, fun _ b o hb => (hS b o hb).2⟩, ?_, ?_, rfl⟩
      · intro id x hx; cases hx
      · intro id ro cs hx; cases hx
      · intro i j x y hx; cases hx
      · intro g e T t hx; cases hx
      · intro g g' x y b hx; cases hx
      · intro g id x y b hx; cases hx
      · intro t c s hts
        simp only [St.start] at hts
        split at hts
        · rename_i ty hty'
          injection hts with hts; simp only [Prod.mk.injEq] at hts; obtain ⟨rfl, rfl⟩ := hts
          have htl : t < sig.params.length := (List.getElem?_eq_some_iff.1 hty').1
          have hdt : ds[t]? = some (ds[t]'(by omega)) := List.getElem?_eq_getElem _
          have hvt : vs[t]? = some (vs[t]'(by omega)) := List.getElem?_eq_getElem _
          obtain ⟨x, hx, hxh⟩ := hasL_get hty t ty (by rw [Ty.toL_ofL]; exact hty')
          rw [hdt] at hx; injection hx with hx
          have hden : den (fun i => ds.getD i .top) (.var t) = ds[t]'(by omega) := by show ds.getD t .top = _; exact toL_getD hdt
          refine ⟨vs[t]'(by omega), ?_, by simp, by simpa [SV.lt, SC.lt, E.lt] using htl, ?_⟩
          · rw [Array.getElem?_append_left (by simp; omega)]; simp [hvt]
          · simp only [condB, List.all_nil, if_true]
            refine ⟨by simpa [E.lt] using htl, ?_, ?_⟩
            · show Rep w S _ (den (fun i => ds.getD i .top) (.var t))
              rw [hden]; exact hrep t _ _ hvt hdt
            · show Has ty (den (fun i => ds.getD i .top) (.var t))
              rw [hden, hx]; exact hxh
        · cases hts
      · simp; omega
end

/-- The same, by program: what is asked of the function's own form. -/
def fvcF (P : Program) (cs : List (Nat × Sig)) (given : List (Nat × Ann)) (sig : Sig) (fn : Func) : VC := fvc P ⟨cs, [], 1, [], []⟩ (autoAnn P given fn.body) sig fn
def fvcW (P : Program) (sig : Sig) (fn : Func) : VC := fvc P ⟨[], [], 2, [], []⟩ (autoAnn P [] fn.body) sig fn
def fvcC (P : Program) (cs : List (Nat × Sig)) (fw wl : FTbl) (given : List (Nat × Ann)) (sig : Sig) (fn : Func) : VC :=
  match fn.body with
  | some c => vc ⟨P, ⟨cs, exOf given fn.body, 0, [], []⟩, fn.ntmps, autoAnn P given fn.body, fw, wl, []⟩ c (fun ex σ _ _ => match ex with | .exit _ => .stuck 20 | _ => retVC P sig fn σ) (St.start sig.params) sig.params.length 0
  | none => .stuck 30
section
variable {P : Program} {f : Nat} {fn : Func} {sig : Sig} {Pre0 : List D → Prop} {Φ0 : List D → D} {cs : List (Nat × Sig)} {Φ : Nat → List D → D} {Pre : Nat → List D → Prop} {given : List (Nat × Ann)} {v : VC}
theorem freshFn_auto {r : Bool × List RCell} (hmix : P.follows .mixedOrders = true) (hcon : Con P Pre Φ cs) (hf : P.funcs[f]? = some fn) (hB : fnB fn sig = true) (hres : sig.res = [r]) (hfr : freshRes r = true) (hv : fvcF P cs given sig fn = v)
    (hc : ∀ ds, HasL (.ofL sig.params) ds → Pre0 ds → v.holds Φ Pre (fun d => d = Φ0 ds) (fun i => ds.getD i .top) []) : FreshFn P f sig.params (compTy r) Pre0 Φ0 := by
  unfold fnB at hB
  simp only [Bool.and_eq_true, decide_eq_true_eq] at hB
  obtain ⟨⟨⟨h0, h1⟩, h2⟩, h3⟩ := hB
  obtain ⟨c, hb⟩ := Option.isSome_iff_exists.1 h1
  refine freshFn_of_vc ⟨cs, [], 1, [], []⟩ Φ Pre (autoAnn P given fn.body) v hf hb (by simpa using h2) hmix h3 ⟨rfl, rfl⟩ rfl hres hfr hcon ?_ hc
  unfold fvcF fvc at hv
  rw [hb] at hv ⊢
  exact hv
theorem wildFn_auto {r : Bool × List RCell} (hmix : P.follows .mixedOrders = true) (hf : P.funcs[f]? = some fn) (hB : fnB fn sig = true) (hres : sig.res = [r]) (hfr : (r.2.all fun x => x.2.isNone) = true) (hv : fvcW P sig fn = v)
    (hc : ∀ ds, HasL (.ofL sig.params) ds → v.holds (fun _ _ => .top) (fun _ _ => True) (fun _ => True) (fun i => ds.getD i .top) []) : WildFn P f sig.params (compTy r) := by
  unfold fnB at hB
  simp only [Bool.and_eq_true, decide_eq_true_eq] at hB
  obtain ⟨⟨⟨h0, h1⟩, h2⟩, h3⟩ := hB
  obtain ⟨c, hb⟩ := Option.isSome_iff_exists.1 h1
  refine wildFn_of_vc ⟨[], [], 2, [], []⟩ (fun _ _ => .top) (fun _ _ => True) (autoAnn P [] fn.body) v hf hb (by simpa using h2) hmix h3 ⟨rfl, rfl⟩ rfl hres hfr (fun _ _ h => by cases h) ?_ hc
  unfold fvcW fvc at hv
  rw [hb] at hv ⊢
  exact hv
theorem pureFn_autoC {fw wl : FTbl} (hmix : P.follows .mixedOrders = true) (hcon : Con P Pre Φ cs) (hfw : ∀ k y, lk fw k = some y → FreshFn P k y.1 y.2 (fun _ => True) (Φ k)) (hwl : ∀ k y, lk wl k = some y → WildFn P k y.1 y.2)
    (hf : P.funcs[f]? = some fn) (hB : fnB fn sig = true) (hv : fvcC P cs fw wl given sig fn = v)
    (hc : ∀ ds, HasL (.ofL sig.params) ds → Pre0 ds → v.holds Φ Pre (fun d => d = Φ0 ds) (fun i => ds.getD i .top) []) (hnf : noFr sig.res = true := by rfl) : PureFn P f sig Pre0 Φ0 := by
  unfold fnB at hB
  simp only [Bool.and_eq_true, decide_eq_true_eq] at hB
  obtain ⟨⟨⟨h0, h1⟩, h2⟩, h3⟩ := hB
  obtain ⟨c, hb⟩ := Option.isSome_iff_exists.1 h1
  refine pureFn_of_vc ⟨cs, exOf given fn.body, 0, [], []⟩ fw wl Φ Pre (autoAnn P given fn.body) v hf hb (by simpa using h2) hmix h3 (by simpa using h0) ⟨rfl, rfl⟩ hcon (.inl ⟨rfl, hnf⟩) hfw hwl ?_ hc
  unfold fvcC at hv
  rw [hb] at hv ⊢
  exact hv
end
section
variable {Φ : Nat → List D → D} {Pre : Nat → List D → Prop} {R : D → Prop} {ρ : Nat → D} {stk : List (List D → Prop)}
theorem vh_any {p : Nat} {t : Ty} {k : VC} : (VC.any p t k).holds Φ Pre R ρ stk = ∀ d, Has t d → k.holds Φ Pre R (upd ρ p d) stk := rfl
theorem vh_hav {p : Nat} {fs : List (E × E)} {k : VC} : (VC.hav p fs k).holds Φ Pre R ρ stk = ∀ d, (∀ x ∈ fs, (den (upd ρ p d) x.1).toL.length = (den (upd ρ p d) x.2).toL.length) → k.holds Φ Pre R (upd ρ p d) stk := rfl
end
end Go.Eng
/- Bodies of which the first pieces are run symbolically, the rest by hand. -/
namespace Go.Eng
open Go Go.RowKit

def seqs : List Code → Code → Code
  | [], c => c
  | a :: r, c => .seq a (seqs r c)
/-- The first pieces, and the rest. -/
def cutC : Nat → Code → List Code × Code
  | n + 1, .seq a b => (a :: (cutC n b).1, (cutC n b).2)
  | _, c => ([], c)
def bodyOf (fn : Func) : Code := match fn.body with
  | some c => c
  | none => .skip
theorem body_cut {fn : Func} (h : fn.body.isSome = true) (n : Nat) : fn.body = some (seqs (cutC n (bodyOf fn)).1 (cutC n (bodyOf fn)).2) := by
  have key : ∀ n c, seqs (cutC n c).1 (cutC n c).2 = c := by
    intro n
    induction n with
    | zero => intro c; cases c <;> rfl
    | succ n ih => intro c; cases c <;> first | rfl | (simp only [cutC, seqs, ih])
  rw [key]
  unfold bodyOf
  cases hb : fn.body with
  | none => rw [hb] at h; cases h
  | some c => rfl
def vcs (N : En) : List Code → (St → Nat → Nat → VC) → St → Nat → Nat → VC
  | [], k, σ, p, d => k σ p d
  | c :: r, k, σ, p, d => vc N c (fun ex σ p d => match ex with | .normal => vcs N r k σ p d | _ => .stuck 0) σ p d
theorem vcs_sound {N : En} {Φ : Nat → List D → D} {Pre : Nat → List D → Prop} {R : D → Prop} {w0 : World} {S0 : Base} (hmix : N.P.follows .mixedOrders = true) (hcon : ∀ k sig, lk N.cs.l k = some sig → PureFn N.P k sig (Pre k) (Φ k))
    (hfl : ∀ k sig ob, lk N.cs.l k = some sig → sig.ob = some ob → ob.isPl = true → ∀ b o, S0.foot b o → ¬ NewB w0 S0 b) (hcf : Env1 N.P N.cs S0 Φ Pre) (hfw : ∀ k y, lk N.fw k = some y → FreshFn N.P k y.1 y.2 (fun _ => True) (Φ k)) (hwl : ∀ k y, lk N.wl k = some y → WildFn N.P k y.1 y.2)
    (hwz : N.cs.fr = 2 → (∀ b o, ¬ S0.foot b o) ∧ S0.wz) (hn : N.its = []) {rest : Code} {Q : Exit → Act → World → Prop} :
    ∀ (cs : List Code) (k : St → Nat → Nat → VC) (σ : St) (p d : Nat) (ρ : Nat → D) (stk : List (List D → Prop)), (vcs N cs k σ p d).holds Φ Pre R ρ stk → stk.length = d → (∀ i b, S0.pin i = some b → i < p) →
    (∀ σ' p' d' ρ' stk' a w G, p ≤ p' → (∀ i, i < p → ρ' i = ρ i) → (k σ' p' d').holds Φ Pre R ρ' stk' → Sim N.n w0 S0 ⟨ρ', p', fun i => i < p'⟩ G σ' a w → rest.wp N.P Q a w) →
    ∀ a w G, Sim N.n w0 S0 ⟨ρ, p, fun i => i < p⟩ G σ a w → (seqs cs rest).wp N.P Q a w
  | [], k, σ, p, d, ρ, stk, h, _, _, hk, a, w, G, hs => hk σ p d ρ stk a w G (Nat.le_refl _) (fun _ _ => rfl) h hs
  | c :: r, k, σ, p, d, ρ, stk, h, hd, hpin, hk, a, w, G, hs => by
    refine wp_seq (vc_sound hmix hcon hfl hcf hfw hwl hwz hn c _ σ p d ρ stk _ h hd hpin ?_ a w G hs)
    intro ex σ' p' d' ρ' stk' a' w' G' hp hag hd' _ hkk hs'
    cases ex with
    | normal =>
      refine vcs_sound hmix hcon hfl hcf hfw hwl hwz hn r k σ' p' d' ρ' stk' hkk hd' (fun i b hi => Nat.lt_of_lt_of_le (hpin i b hi) hp) ?_ a' w' G' hs'
      intro σ2 p2 d2 ρ2 stk2 a2 w2 G2 hp2 hag2 hk2 hs2
      exact hk σ2 p2 d2 ρ2 stk2 a2 w2 G2 (Nat.le_trans hp hp2) (fun i hi => (hag2 i (Nat.lt_of_lt_of_le hi hp)).trans (hag i hi)) hk2 hs2
    | exit i => exact hkk.elim
    | ret => exact hkk.elim

/-- The state at a function's beginning. -/
theorem sim_start {P : Program} {n : Nat} {w : World} {S : Foot} {fr : Prop} {ps : List Ty} {vs : List Value} {ds : List D} (hSlt : ∀ b o, S b o → b < w.heap.size) (hlen : vs.length = ds.length) (hrep : ∀ (i : Nat) v d, vs[i]? = some v → ds[i]? = some d → Rep w S v d)
    (hty : HasL (.ofL ps) ds) (hps : ps.length ≤ n) : Sim n w ⟨S, fun _ => False, fun _ => none, fr, False, P, []⟩ ⟨fun i => ds.getD i .top, ps.length, fun i => i < ps.length⟩ ⟨S, fun _ => 0, fun _ => .nilIface⟩ (St.start ps) ⟨vs.toArray ++ Array.replicate (n - vs.toArray.size) undef, []⟩ w := by
  have hdl : ds.length = ps.length := by rw [hasL_len hty, Ty.toL_ofL]
  refine ⟨⟨BelowX.refl _ _, fun _ _ h => h, fun _ _ _ => rfl, fun i b h => (by cases h), fun i b h => (by cases h), hSlt, fun _ _ h => .inl h, ?_, ?_, ?_, ?_, fun g x b hx => (by cases hx), ?_, ?_, fun _ _ => FrV.nilIface, fun h => h.elim⟩, ?_, ?_, rfl⟩
  · intro id x hx; cases hx
  · intro id ro cs hx; cases hx
  · intro i j x y hx; cases hx
  · intro g e T t hx; cases hx
  · intro g g' x y b hx; cases hx
  · intro g id x y b hx; cases hx
  · intro t c s hts
    simp only [St.start] at hts
    split at hts
    · rename_i ty hty'
      injection hts with hts; simp only [Prod.mk.injEq] at hts; obtain ⟨rfl, rfl⟩ := hts
      have htl : t < ps.length := (List.getElem?_eq_some_iff.1 hty').1
      have hdt : ds[t]? = some (ds[t]'(by omega)) := List.getElem?_eq_getElem _
      have hvt : vs[t]? = some (vs[t]'(by omega)) := List.getElem?_eq_getElem _
      obtain ⟨x, hx, hxh⟩ := hasL_get hty t ty (by rw [Ty.toL_ofL]; exact hty')
      rw [hdt] at hx; injection hx with hx
      have hden : den (fun i => ds.getD i .top) (.var t) = ds[t]'(by omega) := by show ds.getD t .top = _; exact toL_getD hdt
      refine ⟨vs[t]'(by omega), ?_, by simp, by simpa [SV.lt, SC.lt, E.lt] using htl, ?_⟩
      · rw [Array.getElem?_append_left (by simp; omega)]; simp [hvt]
      · simp only [condB, List.all_nil, if_true]
        refine ⟨by simpa [E.lt] using htl, ?_, ?_⟩
        · show Rep w S _ (den (fun i => ds.getD i .top) (.var t))
          rw [hden]; exact hrep t _ _ hvt hdt
        · show Has ty (den (fun i => ds.getD i .top) (.var t))
          rw [hden, hx]; exact hxh
    · cases hts
  · simp; omega

/-- Two variables at hand: of the first all cells but one lean on new blocks alone. -/
def cpEnd (t1 t2 m : Nat) (ts : List Ty) (σ : St) : VC :=
  match σ.tm t1, σ.tm t2 with
  | some ([], .one (.adr i 0)), some ([], .one (.adr j 0)) =>
    match σ.hp i, σ.hp j with
    | some (false, cs), some (false, cs2) =>
      match asDatas cs with
      | some (es, ts') => if mapOf cs2 = none ∧ i ≠ j ∧ cs2.length = cs.length ∧ ts' = ts ∧ (cs.take m).all freshSC = true then .ret (.ofL es) else .stuck 41
      | none => .stuck 42
    | _, _ => .stuck 43
  | _, _ => .stuck 44

def newF (w0 w : World) (S : Foot) : Foot := fun b o => S b o ∧ w0.heap.size ≤ b ∧ ∃ cur T, w.heap[b]? = some (.cells cur T (0, 0))

structure CpAt (t1 t2 m : Nat) (ts : List Ty) (ds : List D) (n : Nat) (w0 : World) (S0 S : Foot) (b1 b2 : Nat) (us vs : List Value) (T1 T2 : TypeId) (a : Act) (w : World) : Prop where
  below : Below w0.heap.size w0 w
  sz : a.tmps.size = n
  defers : a.defers = []
  p1 : a.tmps[t1]? = some (.pointer (some ⟨b1, 0, none⟩))
  p2 : a.tmps[t2]? = some (.pointer (some ⟨b2, 0, none⟩))
  n1 : w0.heap.size ≤ b1
  n2 : w0.heap.size ≤ b2
  ne : b1 ≠ b2
  h1 : w.heap[b1]? = some (.cells us.toArray T1 (0, 0))
  h2 : w.heap[b2]? = some (.cells vs.toArray T2 (0, 0))
  ul : us.length = ts.length
  vl : vs.length = ts.length
  has : HasL (.ofL ts) ds
  foot : ∀ b o, S0 b o → S b o
  lt : ∀ b o, S b o → b < w.heap.size
  x1 : ∀ o, ¬ S b1 o
  x2 : ∀ o, ¬ S b2 o
  rep : ∀ (i : Nat) v d, us[i]? = some v → ds[i]? = some d → Rep w S v d
  fresh : ∀ (i : Nat) v d, i < m → us[i]? = some v → ds[i]? = some d → Rep w (newF w0 w S) v d

theorem cpEnd_ok {P : Program} {t1 t2 m n p : Nat} {ts : List Ty} {ds : List D} {w0 w : World} {S : Foot} {ρ : Nat → D} {G : Gh} {σ : St} {a : Act} {Φ : Nat → List D → D} {Pre : Nat → List D → Prop} {stk : List (List D → Prop)}
    (h : (cpEnd t1 t2 m ts σ).holds Φ Pre (fun d => d = .list ds) ρ stk) (hs : Sim n w0 ⟨S, fun _ => False, fun _ => none, True, False, P, []⟩ ⟨ρ, p, fun i => i < p⟩ G σ a w) :
    ∃ b1 b2 us vs T1 T2, CpAt t1 t2 m ts ds n w0 S G.S b1 b2 us vs T1 T2 a w := by
  unfold cpEnd at h
  split at h
  · rename_i i j hi hj
    split at h
    · rename_i cs cs2 hci hcj
      split at h
      · rename_i es ts' has
        split at h
        · rename_i hc
          obtain ⟨hnm2, hij, hl2, rfl, hfr⟩ := hc
          have hd : den ρ (.ofL es) = .list ds := h
          rw [den_ofL] at hd
          injection hd with hd
          obtain ⟨v1, hv1, _, _, hr1⟩ := hs.t _ _ _ hi
          obtain ⟨v2, hv2, _, _, hr2⟩ := hs.t _ _ _ hj
          simp only [condB, List.all_nil, if_true] at hr1 hr2
          obtain ⟨_, rfl⟩ := hr1
          obtain ⟨_, rfl⟩ := hr2
          obtain ⟨n1, _, hblk1, e1⟩ := hs.m.box _ _ _ hci
          obtain ⟨us, T1, g1, r1⟩ := hblk1.cells (asDatas_notMap has)
          obtain ⟨n2, _, hblk2, e2⟩ := hs.m.box _ _ _ hcj
          obtain ⟨vs, T2, g2, r2⟩ := hblk2.cells hnm2
          have n1' : w0.heap.size ≤ G.β i := n1.elim (fun h => h) (fun h => h.1.elim)
          have n2' : w0.heap.size ≤ G.β j := n2.elim (fun h => h) (fun h => h.1.elim)
          obtain ⟨k1, k2, k3, k4, k5⟩ := asDatas_ok has r1
          have hdd : ∀ (i : Nat) d, ds[i]? = some d → ∃ e, es[i]? = some e ∧ den ρ e = d := by
            intro i d hd'
            rw [← hd] at hd'
            simpa using hd'
          refine ⟨_, _, us, vs, T1, T2, ⟨hs.m.below.to (fun _ h => h), hs.sz, hs.defers, hv1, hv2, n1', n2', fun e => hij (hs.m.inj _ _ _ _ hci hcj e), g1, g2, k3.symm, ?_, ?_, hs.m.foot0, hs.m.footlt, by simpa using e1, by simpa using e2, ?_, ?_⟩⟩
          · rw [r2.1, hl2, ← r1.1, k3]
          · rw [← hd]; exact k5
          · intro i' v d hv hd'
            obtain ⟨e, he, rfl⟩ := hdd i' d hd'
            exact k4 i' v e hv he
          · intro i' v d him hv hd'
            obtain ⟨e, he, rfl⟩ := hdd i' d hd'
            have hil : i' < us.length := (List.getElem?_eq_some_iff.1 hv).1
            have hcl : i' < cs.length := by rw [← r1.1]; exact hil
            have hci' : cs[i']? = some (cs[i']'hcl) := List.getElem?_eq_getElem hcl
            have hf : freshSC (cs[i']'hcl) = true := by
              have := List.all_eq_true.1 hfr (cs[i']'hcl) (List.mem_of_getElem? (i := i') (by rw [List.getElem?_take, if_pos him]; exact hci'))
              exact this
            have h7 := (k4 i' v e hv he).fresh (N := NewB w0 ⟨S, fun _ => False, fun _ => none, True, False, P, []⟩) (freshSC_val hf (hs.m.fresh trivial) (r1.2 i' _ v hci' hv))
            exact h7.keep (fun b o hb => ⟨hb.1, hb.2.1.elim (fun h => h) (fun h => h.elim), hb.2.2⟩) (fun _ _ _ => rfl)
        · exact h.elim
      · exact h.elim
    · exact h.elim
  · exact h.elim

/-- A call whose body's first pieces are run symbolically. -/
theorem calls_cut {P : Program} {cs : Tbl} {anns : List (Nat × Ann)} {Φ : Nat → List D → D} {Pre : Nat → List D → Prop} {R : D → Prop} {f : Nat} {fn : Func} {m : Nat} {ps : List Ty} {vs : List Value} {ds : List D} {S : Foot} {w : World} {fr : Prop} {k : St → Nat → Nat → VC} {RR : Ending → World → Prop} {v : VC}
    (hf : P.funcs[f]? = some fn) (hb : fn.body.isSome = true) (hmix : P.follows .mixedOrders = true) (hcon : Con P Pre Φ cs.l) (hfr : (fr → cs.fr = 1)) (h2 : cs.fr < 2) (hmp : cs.mp = [] ∧ cs.et = [])
    (hveq : vcs ⟨P, cs, fn.ntmps, anns, [], [], []⟩ (cutC m (bodyOf fn)).1 k (St.start ps) ps.length 0 = v) (hv : v.holds Φ Pre R (fun i => ds.getD i .top) []) (hSlt : ∀ b o, S b o → b < w.heap.size) (hlen : vs.length = ds.length) (hrep : ∀ (i : Nat) v d, vs[i]? = some v → ds[i]? = some d → Rep w S v d)
    (hty : HasL (.ofL ps) ds) (hps : ps.length ≤ fn.ntmps)
    (hk : ∀ σ' p' d' ρ' stk' a w' G, (k σ' p' d').holds Φ Pre R ρ' stk' → Sim fn.ntmps w ⟨S, fun _ => False, fun _ => none, fr, False, P, []⟩ ⟨ρ', p', fun i => i < p'⟩ G σ' a w' → (cutC m (bodyOf fn)).2.wp P (bodyPost P fn RR) a w') : Calls P f vs.toArray w RR := by
  refine calls_of_wp hf (body_cut hb m) ?_
  rw [← hveq] at hv
  refine vcs_sound (N := ⟨P, cs, fn.ntmps, anns, [], [], []⟩) (S0 := ⟨S, fun _ => False, fun _ => none, fr, False, P, []⟩) hmix hcon (fun k sig ob _ _ _ b o hb => by
      rintro (h | h)
      · exact absurd (hSlt b o hb) (by show ¬ b < w.heap.size; have : w.heap.size ≤ b := h; omega)
      · exact h) ⟨hfr, fun h => h.elim, rfl, fun T kt h => (by rw [show cs.mp = [] from hmp.1] at h; cases h), fun k sg h => (by rw [show cs.et = [] from hmp.2] at h; cases h)⟩ (fun _ _ h => by cases h) (fun _ _ h => by cases h) (fun h => by have : cs.fr = 2 := h; omega) rfl _ _ _ _ 0 _ [] hv rfl (fun i b h => by cases h) ?_ _ w _ (sim_start hSlt hlen hrep hty hps)
  intro σ' p' d' ρ' stk' a w' G' hp hag hk' hsim
  exact hk _ _ _ _ _ _ _ _ hk' hsim
end Go.Eng
