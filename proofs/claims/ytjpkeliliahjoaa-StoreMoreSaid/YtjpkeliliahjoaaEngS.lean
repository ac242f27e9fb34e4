/-
  A function's contract out of its body's condition.
-/
import Derived.Test.YtjpkeliliahjoaaEngR
namespace Go.Eng
open Go Go.RowKit

/-- A result's cells, before they are typed. -/
def resComp (P : Program) (σ : St) : ResultVar → Option (Bool × List SC)
  | .tmp t => match σ.tm t with
    | some ([], .one c) => if c.scalar then some (false, [c]) else none
    | some ([], .agg l) => some (true, l)
    | _ => none
  | .cell t T => match σ.tm t with
    | some ([], .one (.adr id 0)) => match σ.hp id with
      | some (_, cs) => if aggT P T then (if sizeT P T = some cs.length then some (true, cs) else none)
          else (match cs with | [c] => if (P.underlying T).isSome then some (false, [c]) else none | _ => none)
      | none => none
    | _ => none

abbrev OwnL := List (Nat × Option Tag)
def retCell (σ : St) : RCell → SC → Option (E × OwnL)
  | (t, none), c => match asData c with
    | some (e, t') => if t' = t then some (e, []) else none
    | none => none
  | (t, some (j, T)), c => match c with
    | .nils t' => if t' = t ∧ 0 < t.cells.length then some (.nil, [(j, none)]) else none
    | .own g _ t' => match σ.live g with
      | some (e, T', t'') => if t' = t ∧ t'' = t ∧ T' = T ∧ 0 < t.cells.length then some (e, [(j, some g)]) else none
      | none => none
    | _ => none
def retCells (σ : St) : List RCell → List SC → Option (List E × OwnL)
  | [], [] => some ([], [])
  | r :: rs, c :: cs => match retCell σ r c, retCells σ rs cs with
    | some (e, l), some (es, ls) => some (e :: es, l ++ ls)
    | _, _ => none
  | _, _ => none
def retComp (σ : St) (r : Bool × List RCell) (c : Bool × List SC) : Option (E × OwnL) :=
  if r.1 = c.1 then match retCells σ r.2 c.2 with
    | some (es, l) => if r.1 then some (.un .agg (.ofL es), l) else match es with | [e] => some (e, l) | _ => none
    | none => none
  else none
def retComps (P : Program) (σ : St) : List (Bool × List RCell) → List ResultVar → Option (List E × OwnL)
  | [], [] => some ([], [])
  | r :: rs, x :: xs => match (resComp P σ x).bind (retComp σ r), retComps P σ rs xs with
    | some (e, l), some (es, ls) => some (e :: es, l ++ ls)
    | _, _ => none
  | _, _ => none

def ownOkB (l : OwnL) : Bool := nodupTags (l.map (·.2)) && decide ((l.map (·.1)).Nodup)

def retVC (P : Program) (sig : Sig) (fn : Func) (σ : St) : VC :=
  match retComps P σ sig.res fn.results.toList with
  | some (es, l) => if ownOkB l then (match sig.res, es with | [_], [e] => .ret e | _, es => .ret (.un .tup (.ofL es))) else .stuck 10
  | none => .stuck 11

/-- How one result is read when a body ends, and how results make one value. -/
def readRes (a : Act) : ResultVar → Sem Value
  | .tmp t => pure (a.tmps.getD t undef)
  | .cell p t => do loadVar t (← asAddr (a.tmps.getD p undef))
def resVal : List Value → Value
  | [v] => v
  | vs => .tuple vs.toArray

/-- The state in which a body begins: the arguments are the first variables. -/
def St.start (ps : List Ty) : St := ⟨fun t => match ps[t]? with | some ty => some ([], .one (.dat (.var t) ty)) | none => none, fun _ => none, fun _ => none⟩

section
variable {P : Program} {C : Cx} {w w0 : World} {S0 : Foot} {G : Gh} {σ : St} {a : Act} {n : Nat}

/-- The owned slices of a result: by their numbers. -/
def τOf (G : Gh) (l : OwnL) : Nat → Value := fun j => match lk l j with
  | some (some g) => G.τ g
  | _ => .slice none 0 0

theorem lk_of_mem {α β : Type} [DecidableEq α] : ∀ {l : List (α × β)} {k : α} {v : β}, (l.map (·.1)).Nodup → (k, v) ∈ l → lk l k = some v
  | [], _, _, _, h => by simp at h
  | (a, b) :: l, k, v, hn, h => by
    simp only [List.map_cons, List.nodup_cons] at hn
    simp only [lk]
    rcases List.mem_cons.1 h with h | h
    · simp only [Prod.mk.injEq] at h; obtain ⟨rfl, rfl⟩ := h; simp
    · have : k ≠ a := fun e => hn.1 (List.mem_map.2 ⟨(k, v), h, e⟩)
      rw [if_neg this]; exact lk_of_mem hn.2 h

theorem retCell_ok {r : RCell} {c : SC} {e : E} {l L : OwnL} {v : Value} (hm : SimM w0 S0 C G σ w) (h : retCell σ r c = some (e, l)) (hr : RSC C w G c v) (hL : ∀ x ∈ l, x ∈ L) (hn : (L.map (·.1)).Nodup) :
    CellOk w w0.heap.size G.S (τOf G L) r v (den C.ρ e) := by
  obtain ⟨t, _ | ⟨j, T⟩⟩ := r
  · simp only [retCell] at h
    split at h
    · rename_i e' t' hd
      split at h
      · rename_i htt
        injection h with h; simp only [Prod.mk.injEq] at h; obtain ⟨rfl, rfl⟩ := h
        subst htt
        exact (asData_ok hd hr).2
      · cases h
    · cases h
  · simp only [retCell] at h
    split at h
    · rename_i t'
      split at h
      · rename_i hc
        obtain ⟨rfl, hpos⟩ := hc
        injection h with h; simp only [Prod.mk.injEq] at h; obtain ⟨rfl, rfl⟩ := h
        have hτ : τOf G L j = .slice none 0 0 := by unfold τOf; rw [lk_of_mem hn (hL (j, none) (by simp))]
        refine ⟨by rw [hτ]; exact hr, ⟨has_list.2 ⟨[], rfl, lenOk_zero _, by simp⟩, hpos, [], [], rfl, ?_, ?_, by simp⟩⟩
        · rw [hτ]; exact World.ownsRow_nil w _ _ _
        · rw [hτ]; intro b hb; cases hb
      · cases h
    · rename_i g e0 t'
      split at h
      · rename_i e1 T' t'' hl
        split at h
        · rename_i hc
          obtain ⟨rfl, rfl, rfl, hpos⟩ := hc
          injection h with h; simp only [Prod.mk.injEq] at h; obtain ⟨rfl, rfl⟩ := h
          have hτ : τOf G L j = G.τ g := by unfold τOf; rw [lk_of_mem hn (hL (j, some g) (by simp))]
          have ho := hm.own _ _ _ _ hl
          refine ⟨by rw [hτ]; exact hr.2.2.2.2, ⟨ho.has, hpos, ?_⟩⟩
          rw [hτ]; exact ho.own
        · cases h
      · cases h
    · cases h

theorem retCells_ok {L : OwnL} (hm : SimM w0 S0 C G σ w) (hn : (L.map (·.1)).Nodup) : ∀ {rs : List RCell} {cs : List SC} {es : List E} {l : OwnL} {vs : List Value}, retCells σ rs cs = some (es, l) → RSCs C w G cs vs → (∀ x ∈ l, x ∈ L) →
    es.length = rs.length ∧ vs.length = rs.length ∧ ∀ (i : Nat) r v e, rs[i]? = some r → vs[i]? = some v → es[i]? = some e → CellOk w w0.heap.size G.S (τOf G L) r v (den C.ρ e)
  | [], [], es, l, vs, h, hr, _ => by
    simp only [retCells, Option.some.injEq, Prod.mk.injEq] at h
    obtain ⟨rfl, rfl⟩ := h
    exact ⟨rfl, by have := hr.1; simpa using this, by intro i r v e hi; simp at hi⟩
  | [], _ :: _, _, _, _, h, _, _ => by cases h
  | _ :: _, [], _, _, _, h, _, _ => by cases h
  | r :: rs, c :: cs, es, l, vs, h, hr, hL => by
    simp only [retCells] at h
    split at h
    · rename_i e l1 es' l2 h1 h2
      injection h with h; simp only [Prod.mk.injEq] at h; obtain ⟨rfl, rfl⟩ := h
      cases vs with
      | nil => have := hr.1; simp at this
      | cons v vs =>
        have hr' : RSCs C w G cs vs := ⟨by have := hr.1; simpa using this, fun i c v hi hv => hr.2 (i + 1) c v (by simpa using hi) (by simpa using hv)⟩
        obtain ⟨k1, k2, k3⟩ := retCells_ok hm hn h2 hr' (fun x hx => hL x (by simp [hx]))
        refine ⟨by simp [k1], by simp [k2], fun i r' v' e' hi hv he => ?_⟩
        cases i with
        | zero =>
          simp at hi hv he; subst hi; subst hv; subst he
          exact retCell_ok hm h1 (hr.2 0 c _ rfl rfl) (fun x hx => hL x (by simp [hx])) hn
        | succ i => exact k3 i r' v' e' (by simpa using hi) (by simpa using hv) (by simpa using he)
    · cases h

theorem retComp_ok {L : OwnL} (hm : SimM w0 S0 C G σ w) (hn : (L.map (·.1)).Nodup) {r : Bool × List RCell} {c : Bool × List SC} {e : E} {l : OwnL} {v : Value} (h : retComp σ r c = some (e, l)) (hr : RComp C w G c v) (hL : ∀ x ∈ l, x ∈ L) :
    CompOk w w0.heap.size G.S (τOf G L) r v (den C.ρ e) := by
  unfold retComp at h
  split at h
  · rename_i hrc
    split at h
    · rename_i es l' hcs
      unfold RComp at hr
      unfold CompOk
      cases hr1 : r.1 with
      | true =>
        rw [← hrc, hr1] at hr
        simp only [hr1, if_true] at hr h ⊢
        injection h with h; simp only [Prod.mk.injEq] at h; obtain ⟨rfl, rfl⟩ := h
        obtain ⟨vs, rfl, hvs⟩ := hr
        obtain ⟨k1, k2, k3⟩ := retCells_ok hm hn hcs hvs hL
        refine ⟨vs, es.map (den C.ρ), rfl, by simp only [den, den_ofL, U.den, D.toL], k2, by simp [k1], fun i x u y hx hu hy => ?_⟩
        simp only [List.getElem?_map, Option.map_eq_some_iff] at hy
        obtain ⟨e, he, rfl⟩ := hy
        exact k3 i x u e hx hu he
      | false =>
        rw [← hrc, hr1] at hr
        simp only [hr1, Bool.false_eq_true, if_false] at hr h ⊢
        split at h
        · rename_i e0
          injection h with h; simp only [Prod.mk.injEq] at h; obtain ⟨rfl, rfl⟩ := h
          obtain ⟨c0, hc0, hc1⟩ := hr
          rw [hc0] at hcs
          obtain ⟨k1, k2, k3⟩ := retCells_ok hm hn hcs (vs := [v]) ⟨rfl, fun i c u hi hu => by
            cases i with
            | zero => simp at hi hu; subst hi; subst hu; exact hc1
            | succ i => simp at hi⟩ hL
          obtain ⟨x, hx⟩ := List.length_eq_one_iff.1 k1.symm
          exact ⟨x, hx, k3 0 x v e0 (by rw [hx]; rfl) rfl rfl⟩
        · cases h
    · cases h
  · cases h

theorem run_resComp {x : ResultVar} {c : Bool × List SC} (hs : Sim n w0 S0 C G σ a w) (h : resComp P σ x = some c) :
    ∃ v, (readRes a x).run P w = .ok v w ∧ RComp C w G c v := by
  unfold resComp at h
  split at h
  · rename_i t
    split at h
    · rename_i c' ht
      split at h
      · injection h with h; subst h
        obtain ⟨v, h1, _, _, h2⟩ := hs.t t _ _ ht
        simp only [condB, List.all_nil, if_true] at h2
        refine ⟨v, by simp [readRes, h1], ?_⟩
        unfold RComp
        simp only [Bool.false_eq_true, if_false]
        exact ⟨_, rfl, h2⟩
      · cases h
    · rename_i l ht
      injection h with h; subst h
      obtain ⟨v, h1, _, _, h2⟩ := hs.t t _ _ ht
      simp only [condB, List.all_nil, if_true] at h2
      refine ⟨v, by simp [readRes, h1], ?_⟩
      unfold RComp
      simp only [if_true]
      exact h2
    · cases h
  · rename_i t T
    split at h
    · rename_i id ht
      obtain ⟨v, h1, _, _, h2⟩ := hs.t t _ _ ht
      simp only [condB, List.all_nil, if_true] at h2
      obtain ⟨_, rfl⟩ := h2
      split at h
      · rename_i ro cs hid
        obtain ⟨_, _, ⟨vs, T0, hg, hr⟩, _⟩ := hs.m.box _ _ _ hid
        have hcell : ∀ j, w.cell? ⟨G.β id, j, none⟩ = vs[j]? := by intro j; rw [cell_of_row w _ j _ T0 _ hg]; simp
        have hload : ∀ {u : Value}, (Instr.loadAt T (.pointer (some ⟨G.β id, 0, none⟩))).run P w = .ok u w → (do loadVar T (← asAddr (a.tmps.getD t undef)) : Sem Value).run P w = .ok u w := by
          intro u hu
          have e1 : a.tmps.getD t undef = .pointer (some ⟨G.β id, 0, none⟩) := by simp [h1]
          rw [e1]
          simpa [Instr.loadAt, Instr.sureAddr, asAddr] using hu
        split at h
        · rename_i ha
          split at h
          · rename_i hsz
            injection h with h; subst h
            refine ⟨.agg vs.toArray, hload (run_load_cells hsz ha hr.1 (fun j v hv => by rw [Nat.zero_add, hcell]; exact hv)), ?_⟩
            unfold RComp
            simp only [if_true]
            exact ⟨vs, rfl, hr⟩
          · cases h
        · rename_i ha
          split at h
          · rename_i c'
            split at h
            · rename_i hsome
              injection h with h; subst h
              obtain ⟨u, rfl⟩ : ∃ u, vs = [u] := List.length_eq_one_iff.1 hr.1
              refine ⟨u, hload (run_load_one (by simpa using ha) hsome (by rw [hcell]; rfl)), ?_⟩
              unfold RComp
              simp only [Bool.false_eq_true, if_false]
              exact ⟨_, rfl, hr.2 0 _ u rfl rfl⟩
            · cases h
          · cases h
      · cases h
    · cases h

theorem run_retComps {L : OwnL} (hs : Sim n w0 S0 C G σ a w) (hn : (L.map (·.1)).Nodup) : ∀ {rs : List (Bool × List RCell)} {xs : List ResultVar} {es : List E} {l : OwnL}, retComps P σ rs xs = some (es, l) → (∀ x ∈ l, x ∈ L) →
    ∃ vs : List Value, (xs.mapM (m := Sem) (readRes a)).run P w = .ok vs w ∧ vs.length = rs.length ∧ es.length = rs.length ∧ xs.length = rs.length ∧
      ∀ (i : Nat) r v e, rs[i]? = some r → vs[i]? = some v → es[i]? = some e → CompOk w w0.heap.size G.S (τOf G L) r v (den C.ρ e)
  | [], [], es, l, h, _ => by
    simp only [retComps, Option.some.injEq, Prod.mk.injEq] at h
    obtain ⟨rfl, rfl⟩ := h
    exact ⟨[], by simp, rfl, rfl, rfl, by intro i r v e hi; simp at hi⟩
  | [], _ :: _, _, _, h, _ => by cases h
  | _ :: _, [], _, _, h, _ => by cases h
  | r :: rs, x :: xs, es, l, h, hL => by
    simp only [retComps] at h
    split at h
    · rename_i e l1 es' l2 h1 h2
      injection h with h; simp only [Prod.mk.injEq] at h; obtain ⟨rfl, rfl⟩ := h
      cases hc : resComp P σ x with
      | none => simp [hc] at h1
      | some c =>
        simp only [hc, Option.bind_some] at h1
        obtain ⟨v, k1, k2⟩ := run_resComp hs hc
        obtain ⟨vs, m1, m2, m3, m4, m5⟩ := run_retComps hs hn h2 (fun x hx => hL x (by simp [hx]))
        refine ⟨v :: vs, ?_, by simp [m2], by simp [m3], by simp [m4], fun i r' v' e' hi hv he => ?_⟩
        · rw [List.mapM_cons, Sem.run_bind, k1, Result.andThen_ok, Sem.run_bind, m1]; rfl
        · cases i with
          | zero => simp at hi hv he; subst hi; subst hv; subst he; exact retComp_ok hs.m hn h1 k2 (fun x hx => hL x (by simp [hx]))
          | succ i => exact m5 i r' v' e' (by simpa using hi) (by simpa using hv) (by simpa using he)
    · cases h

theorem run_results {fn : Func} {vs : List Value} (h : (fn.results.toList.mapM (m := Sem) (readRes a)).run P w = .ok vs w) :
    (results fn a.tmps).run P w = .ok (resVal vs) w := by
  have h0 : results fn a.tmps = (do
      let vs ← fn.results.mapM (readRes a)
      pure (if h : vs.size = 1 then vs[0] else .tuple vs)) := by
    unfold results
    rfl
  rw [h0]
  have h1 : (fn.results.mapM (m := Sem) (readRes a)).run P w = .ok vs.toArray w := by
    have e1 := Array.mapM_eq_mapM_toList (m := Sem) (f := readRes a) (xs := fn.results)
    rw [e1, Sem.run_map, h]; rfl
  rw [Sem.run_bind, h1, Result.andThen_ok]
  match vs with
  | [] => rfl
  | [v] => rfl
  | _ :: _ :: _ => rfl

theorem own_retCell {r : RCell} {c : SC} {e : E} {l : OwnL} (h : retCell σ r c = some (e, l)) : (r.2.map (·.1)).toList = l.map (·.1) := by
  obtain ⟨t, _ | ⟨j, T⟩⟩ := r
  · simp only [retCell] at h
    split at h
    · split at h
      · injection h with h; simp only [Prod.mk.injEq] at h; rw [← h.2]; rfl
      · cases h
    · cases h
  · simp only [retCell] at h
    split at h
    · split at h
      · injection h with h; simp only [Prod.mk.injEq] at h; rw [← h.2]; rfl
      · cases h
    · split at h
      · split at h
        · injection h with h; simp only [Prod.mk.injEq] at h; rw [← h.2]; rfl
        · cases h
      · cases h
    · cases h

theorem own_retCells : ∀ {rs : List RCell} {cs : List SC} {es : List E} {l : OwnL}, retCells σ rs cs = some (es, l) → (rs.filterMap fun x => x.2.map (·.1)) = l.map (·.1)
  | [], cs, es, l, h => by
    cases cs <;> simp [retCells] at h
    obtain ⟨rfl, rfl⟩ := h; rfl
  | _ :: _, [], _, _, h => by cases h
  | r :: rs, c :: cs, es, l, h => by
    simp only [retCells] at h
    split at h
    · rename_i q1 q2
      injection h with h; simp only [Prod.mk.injEq] at h; rw [← h.2, List.map_append, ← own_retCell q1, ← own_retCells q2]
      cases hr : r.2 with
      | none => simp [hr]
      | some x => simp [hr]
    · cases h

theorem own_retComps : ∀ {rs : List (Bool × List RCell)} {xs : List ResultVar} {es : List E} {l : OwnL}, retComps P σ rs xs = some (es, l) → ownIdx rs = l.map (·.1)
  | [], xs, es, l, h => by
    cases xs <;> simp [retComps] at h
    obtain ⟨rfl, rfl⟩ := h; rfl
  | _ :: _, [], _, _, h => by cases h
  | r :: rs, x :: xs, es, l, h => by
    simp only [retComps] at h
    split at h
    · rename_i q1 q2
      injection h with h; simp only [Prod.mk.injEq] at h; rw [← h.2, List.map_append, ← own_retComps q2]
      have : ownIdx (r :: rs) = (r.2.filterMap fun x => x.2.map (·.1)) ++ ownIdx rs := by simp [ownIdx]
      rw [this]
      congr 1
      cases hrc : resComp P σ x with
      | none => simp [hrc] at q1
      | some c =>
        simp only [hrc, Option.bind_some] at q1
        unfold retComp at q1
        split at q1
        · split at q1
          · rename_i hcs
            split at q1
            · injection q1 with q1; simp only [Prod.mk.injEq] at q1; rw [← q1.2]; exact own_retCells hcs
            · split at q1
              · injection q1 with q1; simp only [Prod.mk.injEq] at q1; rw [← q1.2]; exact own_retCells hcs
              · cases q1
          · cases q1
        · cases q1
    · cases h

/-- What is left of a function: its body's condition, at whatever its arguments read as. -/
theorem pureFn_of_vc {f : Nat} {fn : Func} {c : Code} {sig : Sig} {Pre0 : List D → Prop} {Φ0 : List D → D} (cs : List (Nat × Sig)) (Φ : Nat → List D → D) (Pre : Nat → List D → Prop) (anns : List (Nat × Ann)) (v : VC)
    (hf : P.funcs[f]? = some fn) (hb : fn.body = some c) (hname : (fn.name == "runtime.NumGoroutine") = false) (hmix : P.follows .mixedOrders = true)
    (hps : sig.params.length ≤ fn.ntmps)
    (hcon : ∀ k sig, lk cs k = some sig → PureFn P k sig (Pre k) (Φ k))
    (hv : vc ⟨P, cs, fn.ntmps, anns⟩ c (fun ex σ _ _ => match ex with | .exit _ => .stuck 20 | _ => retVC P sig fn σ) (St.start sig.params) sig.params.length 0 = v)
    (hc : ∀ ds, HasL (.ofL sig.params) ds → Pre0 ds → v.holds Φ Pre (fun d => d = Φ0 ds) (fun i => ds.getD i .top) []) : PureFn P f sig Pre0 Φ0 where
  enter args w := by
    unfold callFunc
    have hbs : fn.body.isNone = false := by rw [hb]; rfl
    have hname' : fn.name ≠ "runtime.NumGoroutine" := by simpa using hname
    simp [hf, hb, hname']
  calls w S vs ds hSlt hlen hrep hty hpre := by
    have hdl : ds.length = sig.params.length := by rw [hasL_len hty, Ty.toL_ofL]
    refine calls_of_wp hf hb ?_
    have hcond := hc ds hty hpre
    rw [← hv] at hcond
    refine vc_sound (w0 := w) (S0 := S) (N := ⟨P, cs, fn.ntmps, anns⟩) hmix hcon c _ _ _ 0 _ [] _ hcond rfl ?_ _ w ⟨S, fun _ => 0, fun _ => .nilIface⟩ ?_
    · intro ex σ' p' d' ρ' stk' a' w' G' _ _ _ _ hk hs
      have fin : (retVC P sig fn σ').holds Φ Pre (fun d => d = Φ0 ds) ρ' stk' → a'.defers = [] ∧ ∃ v, (results fn a'.tmps).run P w' = .ok v w' ∧ ∃ v0 S' τ, Ending.returned v = .returned v0 ∧ Below w.heap.size w w' ∧ (∀ b o, S b o → S' b o) ∧ (∀ b o, S' b o → b < w'.heap.size) ∧ (∀ b o, S' b o → S b o ∨ w.heap.size ≤ b) ∧
          ResOk w' w.heap.size S' τ sig.res v0 (Φ0 ds) ∧ ∀ j k b, j ∈ ownIdx sig.res → k ∈ ownIdx sig.res → (τ j).ownBlock = some b → (τ k).ownBlock = some b → j = k := by
        intro hk
        refine ⟨hs.defers, ?_⟩
        unfold retVC at hk
        split at hk
        · rename_i es l hret
          split at hk
          · rename_i hok
            unfold ownOkB at hok
            simp only [Bool.and_eq_true, decide_eq_true_eq] at hok
            obtain ⟨hnt, hnj⟩ := hok
            obtain ⟨us, h1, h2, h3, h4, h5⟩ := run_retComps (L := l) hs hnj hret (fun x hx => hx)
            refine ⟨_, run_results h1, _, G'.S, τOf G' l, rfl, hs.m.below, hs.m.foot0, hs.m.footlt, hs.m.footnew, ?_, ?_⟩
            · split at hk
              · rename_i r e hres
                have hd : den ρ' e = Φ0 ds := hk
                rw [hres] at h2 h5 ⊢
                obtain ⟨u, rfl⟩ : ∃ u, us = [u] := List.length_eq_one_iff.1 h2
                exact .inl ⟨r, rfl, by rw [← hd]; exact h5 0 r u e rfl rfl rfl⟩
              · rename_i es1 _ es2 hne
                have hd : den ρ' (.un .tup (.ofL _)) = Φ0 ds := hk
                have hl1 : sig.res.length ≠ 1 := by
                  intro h
                  obtain ⟨r, hr⟩ := List.length_eq_one_iff.1 h
                  obtain ⟨e, he⟩ := List.length_eq_one_iff.1 (h3.trans h)
                  exact hne r e hr he
                have hmt : resVal us = .tuple us.toArray := by
                  match us, h2 with
                  | [], _ => rfl
                  | [u], h2 => exact absurd h2.symm hl1
                  | _ :: _ :: _, _ => rfl
                rw [hmt]
                refine .inr ⟨hl1, us, es1.map (den ρ'), rfl, by rw [← hd]; simp only [den, den_ofL, U.den, D.toL], h2, by simp [h3], fun i r u y hr hu hy => ?_⟩
                simp only [List.getElem?_map, Option.map_eq_some_iff] at hy
                obtain ⟨e, he, rfl⟩ := hy
                exact h5 i r u e hr hu he
            · intro j k b hj hk' hbj hbk
              rw [own_retComps hret] at hj hk'
              obtain ⟨x, hx, rfl⟩ := List.mem_map.1 hj
              obtain ⟨y, hy, rfl⟩ := List.mem_map.1 hk'
              have ex : lk l x.1 = some x.2 := lk_of_mem hnj hx
              have ey : lk l y.1 = some y.2 := lk_of_mem hnj hy
              unfold τOf at hbj hbk
              rw [ex] at hbj
              rw [ey] at hbk
              obtain ⟨jx, _ | gx⟩ := x
              · cases hbj
              · obtain ⟨jy, _ | gy⟩ := y
                · cases hbk
                · simp only at hbj hbk
                  -- the two tags are live, hence one
                  have live : ∀ {rs xs es l j g}, retComps P σ' rs xs = some (es, l) → (j, some g) ∈ l → ∃ z, σ'.live g = some z := by
                    have l1 : ∀ {r : RCell} {c : SC} {e : E} {l : OwnL} {j : Nat} {g : Tag}, retCell σ' r c = some (e, l) → (j, some g) ∈ l → ∃ z, σ'.live g = some z := by
                      rintro ⟨t, _ | ⟨j0, T⟩⟩ c e l j g h hm
                      · simp only [retCell] at h
                        split at h
                        · split at h
                          · injection h with h; simp only [Prod.mk.injEq] at h; rw [← h.2] at hm; simp at hm
                          · cases h
                        · cases h
                      · simp only [retCell] at h
                        split at h
                        · split at h
                          · injection h with h; simp only [Prod.mk.injEq] at h; rw [← h.2] at hm; simp at hm
                          · cases h
                        · split at h
                          · rename_i hl
                            split at h
                            · injection h with h; simp only [Prod.mk.injEq] at h; rw [← h.2] at hm
                              simp at hm; obtain ⟨rfl, rfl⟩ := hm; exact ⟨_, hl⟩
                            · cases h
                          · cases h
                        · cases h
                    have l2 : ∀ {rs : List RCell} {cs : List SC} {es : List E} {l : OwnL} {j : Nat} {g : Tag}, retCells σ' rs cs = some (es, l) → (j, some g) ∈ l → ∃ z, σ'.live g = some z := by
                      intro rs
                      induction rs with
                      | nil => intro cs es l j g h hm; cases cs <;> simp [retCells] at h; obtain ⟨rfl, rfl⟩ := h; simp at hm
                      | cons r rs ih =>
                        intro cs es l j g h hm
                        cases cs with
                        | nil => cases h
                        | cons c cs =>
                          simp only [retCells] at h
                          split at h
                          · rename_i q1 q2
                            injection h with h; simp only [Prod.mk.injEq] at h; rw [← h.2] at hm
                            rcases List.mem_append.1 hm with hm | hm
                            · exact l1 q1 hm
                            · exact ih q2 hm
                          · cases h
                    intro rs
                    induction rs with
                    | nil => intro xs es l j g h hm; cases xs <;> simp [retComps] at h; obtain ⟨rfl, rfl⟩ := h; simp at hm
                    | cons r rs ih =>
                      intro xs es l j g h hm
                      cases xs with
                      | nil => cases h
                      | cons x xs =>
                        simp only [retComps] at h
                        split at h
                        · rename_i q1 q2
                          injection h with h; simp only [Prod.mk.injEq] at h; rw [← h.2] at hm
                          rcases List.mem_append.1 hm with hm | hm
                          · cases hrc : resComp P σ' x with
                            | none => simp [hrc] at q1
                            | some c =>
                              simp only [hrc, Option.bind_some] at q1
                              unfold retComp at q1
                              split at q1
                              · split at q1
                                · rename_i hcs
                                  split at q1
                                  · injection q1 with q1; simp only [Prod.mk.injEq] at q1; rw [← q1.2] at hm; exact l2 hcs hm
                                  · split at q1
                                    · injection q1 with q1; simp only [Prod.mk.injEq] at q1; rw [← q1.2] at hm; exact l2 hcs hm
                                    · cases q1
                                · cases q1
                              · cases q1
                          · exact ih q2 hm
                        · cases h
                  obtain ⟨zx, hzx⟩ := live hret hx
                  obtain ⟨zy, hzy⟩ := live hret hy
                  have hg := hs.m.ownne gx gy _ _ b hzx hzy hbj hbk
                  subst hg
                  obtain ⟨i1, hi1⟩ := List.getElem?_of_mem hx
                  obtain ⟨i2, hi2⟩ := List.getElem?_of_mem hy
                  have := nodupTags_ne hnt i1 i2 gx (by rw [List.getElem?_map, hi1]; rfl) (by rw [List.getElem?_map, hi2]; rfl)
                  subst this
                  rw [hi1] at hi2; injection hi2 with hi2
                  simp only [Prod.mk.injEq] at hi2
                  exact hi2.1
          · exact hk.elim
        · exact hk.elim
      cases ex with
      | normal => exact fin hk
      | ret => exact fin hk
      | exit i => exact hk.elim
    · refine ⟨⟨Below.refl _ _, fun _ _ h => h, hSlt, fun _ _ h => .inl h, ?_, ?_, ?_, ?_, ?_, ?_⟩, ?_, ?_, rfl⟩
      · intro id x hx; cases hx
      · intro id ro cs hx; cases hx
      · intro i j x y hx; cases hx
      · intro g e T t hx; cases hx
      · intro g g' x y b hx; cases hx
      · intro g id x y b hx; cases hx
      · intro t c s hts
        simp only [St.start] at hts
        split at hts
        · rename_i ty hty'
          injection hts with hts; simp only [Prod.mk.injEq] at hts; obtain ⟨rfl, rfl⟩ := hts
          have htl : t < sig.params.length := (List.getElem?_eq_some_iff.1 hty').1
          have hdt : ds[t]? = some (ds[t]'(by omega)) := List.getElem?_eq_getElem _
          have hvt : vs[t]? = some (vs[t]'(by omega)) := List.getElem?_eq_getElem _
          obtain ⟨x, hx, hxh⟩ := hasL_get hty t ty (by rw [Ty.toL_ofL]; exact hty')
          rw [hdt] at hx; injection hx with hx
          have hden : den (fun i => ds.getD i .top) (.var t) = ds[t]'(by omega) := by show ds.getD t .top = _; exact toL_getD hdt
          refine ⟨vs[t]'(by omega), ?_, by simp, by simpa [SV.lt, SC.lt, E.lt] using htl, ?_⟩
          · rw [Array.getElem?_append_left (by simp; omega)]; simp [hvt]
          · simp only [condB, List.all_nil, if_true]
            refine ⟨by simpa [E.lt] using htl, ?_, ?_⟩
            · show Rep w S _ (den (fun i => ds.getD i .top) (.var t))
              rw [hden]; exact hrep t _ _ hvt hdt
            · show Has ty (den (fun i => ds.getD i .top) (.var t))
              rw [hden, hx]; exact hxh
        · cases hts
      · simp; omega
end
end Go.Eng
