/-
  Functions that make all that they give in new blocks.
-/
import Derived.Test.YtjpkeliliahjoaaEngV
namespace Go.Eng
open Go Go.RowKit

theorem Rep.fresh {N : Nat → Prop} {w : World} {S : Foot} {v : Value} {d : D} (h : Rep w S v d) (hv : ValIn (FrB N w S) v) : Rep w (fun b o => S b o ∧ N b ∧ ∃ cur T, w.heap[b]? = some (.cells cur T (0, 0))) v d := by
  induction h with
  | int k n => exact .int k n
  | bool b => exact .bool b
  | str s => exact .str s
  | agg cs ds hl _ ih => exact hv.elim
  | tup cs ds hl _ ih => exact hv.elim
  | nilp => exact hv.elim
  | ptr b cs ds hl hs hc _ ih => exact hv.elim
  | nil a cap => exact .nil a cap
  | list b off cap sz xs ds hsz hne hcap hl hs hc hw _ ih =>
    rcases hv with hv | ⟨b', o', h1, h2⟩
    · exact absurd (List.eq_nil_of_length_eq_zero hv) hne
    · simp only [Option.some.injEq, Addr.mk.injEq] at h1
      obtain ⟨rfl, _⟩ := h1
      obtain ⟨hN, _, hcz, h3⟩ := FrB.set N w S b h2
      refine .list b off cap sz xs ds hsz hne hcap hl (fun i hi => ⟨hs i hi, hN, hcz⟩) hc hw (fun i d j v c h4 h5 h6 => ih i d j v c h4 h5 h6 ?_)
      have hlt := (List.getElem?_eq_some_iff.1 h6).1
      exact h3 _ v (hs _ hlt) (hc _ v h6)
  | fn f cs ds hl _ ih => exact hv.elim

/-- One result's type. -/
def compTy (c : Bool × List RCell) : Ty := if c.1 then .agg (.ofL (c.2.map rcTy)) else match c.2 with
  | [x] => rcTy x
  | _ => .nil
def cellFr (x : RCell) : Bool := match x.2 with
  | some (j, _) => !exN j
  | none => x.1.bare
def freshRes (c : Bool × List RCell) : Bool := c.2.all cellFr

theorem OwnD.rep {w : World} {S : Foot} {T : TypeId} {t : Ty} {v : Value} {d : D} (h : OwnD false w 0 S T t v d) : Rep w S v d := by
  have := OwnD.ok (C := ⟨fun _ => d, 1, fun _ => True⟩) (G := ⟨S, fun _ => 0, fun _ => v⟩) (g := (0, 0)) (e := .var 0) h trivial rfl rfl rfl rfl
  exact this.rep h.sz

theorem CellOk.freshRep {N : Nat → Prop} {w : World} {S : Foot} {τ : Nat → Value} {x : RCell} {v : Value} {d : D} (h : CellOk w 0 S τ x v d) (hfr : ∀ j, FrV N w S (τ j)) (hx : cellFr x = true) :
    Rep w (fun b o => S b o ∧ N b ∧ ∃ cur T, w.heap[b]? = some (.cells cur T (0, 0))) v d ∧ Has (rcTy x) d := by
  obtain ⟨t, _ | ⟨j, T⟩⟩ := x
  · exact ⟨rep_bare hx h.2 h.1, h.2⟩
  · obtain ⟨h1, h2⟩ := h
    have hej : exN j = false := by simpa [cellFr] using hx
    rw [hej] at h2
    have hr := h2.rep
    refine ⟨?_, h2.has⟩
    subst h1
    obtain ⟨l, hl, _⟩ := has_list.1 h2.has
    rw [hl] at hr ⊢
    obtain ⟨a, cap, hv⟩ := hr.inv_list
    exact hr.fresh (hfr j a _ cap hv)

theorem CompOk.freshRep {N : Nat → Prop} {w : World} {S : Foot} {τ : Nat → Value} {c : Bool × List RCell} {v : Value} {d : D} (h : CompOk w 0 S τ c v d) (hfr : ∀ j, FrV N w S (τ j)) (hx : freshRes c = true) :
    Rep w (fun b o => S b o ∧ N b ∧ ∃ cur T, w.heap[b]? = some (.cells cur T (0, 0))) v d ∧ Has (compTy c) d := by
  have hx' := List.all_eq_true.1 hx
  unfold CompOk at h
  unfold compTy
  split at h
  · rename_i hc
    rw [if_pos hc]
    obtain ⟨vs, ds, rfl, rfl, h1, h2, h3⟩ := h
    refine ⟨.agg vs ds (by omega) fun i u y hu hy => ?_, has_agg.2 ⟨ds, rfl, hasL_mk (by simpa using h2) fun j u x hj hxx => ?_⟩⟩
    · have hi : i < c.2.length := by rw [← h1]; exact (List.getElem?_eq_some_iff.1 hu).1
      exact ((h3 i _ u y (List.getElem?_eq_getElem hi) hu hy).freshRep hfr (hx' _ (List.getElem_mem hi))).1
    · simp only [List.getElem?_map, Option.map_eq_some_iff] at hj
      obtain ⟨r, hr, rfl⟩ := hj
      have hjl : j < c.2.length := (List.getElem?_eq_some_iff.1 hr).1
      exact ((h3 j r _ x hr (List.getElem?_eq_getElem (by omega)) hxx).freshRep hfr (hx' _ (List.mem_of_getElem? hr))).2
  · rename_i hc
    rw [if_neg hc]
    obtain ⟨x, hxx, h1⟩ := h
    rw [hxx]
    exact h1.freshRep hfr (hx' _ (by rw [hxx]; simp))

section
variable {P : Program}
theorem freshFn_of_vc {f : Nat} {fn : Func} {c : Code} {sig : Sig} {r : Bool × List RCell} {Pre0 : List D → Prop} {Φ0 : List D → D} (cs : Tbl) (Φ : Nat → List D → D) (Pre : Nat → List D → Prop) (anns : List (Nat × Ann)) (v : VC)
    (hf : P.funcs[f]? = some fn) (hb : fn.body = some c) (hname : (fn.name == "runtime.NumGoroutine") = false) (hmix : P.follows .mixedOrders = true)
    (hps : sig.params.length ≤ fn.ntmps) (hcf : cs.fr = 1) (hres : sig.res = [r]) (hfr : freshRes r = true)
    (hcon : ∀ k sig, lk cs.l k = some sig → PureFn P k sig (Pre k) (Φ k))
    (hv : vc ⟨P, cs, fn.ntmps, anns, [], []⟩ c (fun ex σ _ _ => match ex with | .exit _ => .stuck 20 | _ => retVC P sig fn σ) (St.start sig.params) sig.params.length 0 = v)
    (hc : ∀ ds, HasL (.ofL sig.params) ds → Pre0 ds → v.holds Φ Pre (fun d => d = Φ0 ds) (fun i => ds.getD i .top) []) : FreshFn P f sig.params (compTy r) Pre0 Φ0 where
  enter args w := by
    unfold callFunc
    have hbs : fn.body.isNone = false := by rw [hb]; rfl
    have hname' : fn.name ≠ "runtime.NumGoroutine" := by simpa using hname
    simp [hf, hb, hname']
  calls w S vs ds hSlt hlen hrep hty hpre := by
    have hdl : ds.length = sig.params.length := by rw [hasL_len hty, Ty.toL_ofL]
    refine calls_of_wp hf hb ?_
    have hcond := hc ds hty hpre
    rw [← hv] at hcond
    refine vc_sound (w0 := w) (S0 := ⟨S, fun _ => False, fun _ => none, True, False⟩) (N := ⟨P, cs, fn.ntmps, anns, [], []⟩) hmix hcon (fun _ _ _ _ _ _ b o hb => by
      rintro (h | h)
      · exact absurd (hSlt b o hb) (by show ¬ b < w.heap.size; have : w.heap.size ≤ b := h; omega)
      · exact h) ⟨fun _ => hcf, fun h => h.elim⟩ (fun _ _ h => by cases h) (fun _ _ h => by cases h) (fun h => by have : cs.fr = 2 := h; omega) c _ _ _ 0 _ [] _ hcond rfl (fun i b h => (by cases h)) ?_ _ w ⟨S, fun _ => 0, fun _ => .nilIface⟩ ?_
    · intro ex σ' p' d' ρ' stk' a' w' G' _ _ _ _ hk hs
      have fin : (retVC P sig fn σ').holds Φ Pre (fun d => d = Φ0 ds) ρ' stk' → a'.defers = [] ∧ ∃ v, (results fn a'.tmps).run P w' = .ok v w' ∧ ∃ v0 F, Ending.returned v = .returned v0 ∧ Below w.heap.size w w' ∧ (∀ b o, F b o → w.heap.size ≤ b ∧ b < w'.heap.size ∧ ∃ cur T, w'.heap[b]? = some (.cells cur T (0, 0))) ∧
          Rep w' F v0 (Φ0 ds) ∧ Has (compTy r) (Φ0 ds) := by
        intro hk
        refine ⟨hs.defers, ?_⟩
        unfold retVC at hk
        split at hk
        · rename_i es l hret
          split at hk
          · rename_i hok
            unfold ownOkB at hok
            simp only [Bool.and_eq_true, decide_eq_true_eq] at hok
            obtain ⟨hnt, hnj⟩ := hok
            obtain ⟨us, h1, h2, h3, h4, h5⟩ := run_retComps (L := l) hs hnj hret (fun x hx => hx)
            rw [hres] at h2 h3 h5 hk
            obtain ⟨u, rfl⟩ : ∃ u, us = [u] := List.length_eq_one_iff.1 h2
            obtain ⟨e, rfl⟩ : ∃ e, es = [e] := List.length_eq_one_iff.1 h3
            have hd : den ρ' e = Φ0 ds := hk
            have h6 := h5 0 r u e rfl rfl rfl
            rw [show den (Cx.ρ ⟨ρ', p', fun i => i < p'⟩) e = Φ0 ds from hd] at h6
            obtain ⟨h7, h8⟩ := h6.freshRep (N := NewB w ⟨S, fun _ => False, fun _ => none, True, False⟩) (fun j => by
              unfold τOf
              split
              · exact hs.m.fresh trivial _
              · intro a n cap hv
                exact .inl rfl) hfr
            refine ⟨_, run_results h1, u, _, rfl, hs.m.below.to (fun _ h => h), fun b o hb => ⟨?_, hs.m.footlt b o hb.1, hb.2.2⟩, h7, h8⟩
            exact hb.2.1.elim (fun h => h) (fun h => h.elim)
          · exact hk.elim
        · exact hk.elim
      cases ex with
      | normal => exact fin hk
      | ret => exact fin hk
      | exit i => exact hk.elim
    · refine ⟨⟨BelowX.refl _ _, fun _ _ h => h, fun _ _ _ => rfl, fun i b h => (by cases h), fun i b h => (by cases h), hSlt, fun _ _ h => .inl h, ?_, ?_, ?_, ?_, fun g x b hx => (by cases hx), ?_, ?_, fun _ _ => FrV.nilIface, fun h => h.elim⟩, ?_, ?_, rfl⟩
      · intro id x hx; cases hx
      · intro id ro cs hx; cases hx
      · intro i j x y hx; cases hx
      · intro g e T t hx; cases hx
      · intro g g' x y b hx; cases hx
      · intro g id x y b hx; cases hx
      · intro t c s hts
        simp only [St.start] at hts
        split at hts
        · rename_i ty hty'
          injection hts with hts; simp only [Prod.mk.injEq] at hts; obtain ⟨rfl, rfl⟩ := hts
          have htl : t < sig.params.length := (List.getElem?_eq_some_iff.1 hty').1
          have hdt : ds[t]? = some (ds[t]'(by omega)) := List.getElem?_eq_getElem _
          have hvt : vs[t]? = some (vs[t]'(by omega)) := List.getElem?_eq_getElem _
          obtain ⟨x, hx, hxh⟩ := hasL_get hty t ty (by rw [Ty.toL_ofL]; exact hty')
          rw [hdt] at hx; injection hx with hx
          have hden : den (fun i => ds.getD i .top) (.var t) = ds[t]'(by omega) := by show ds.getD t .top = _; exact toL_getD hdt
          refine ⟨vs[t]'(by omega), ?_, by simp, by simpa [SV.lt, SC.lt, E.lt] using htl, ?_⟩
          · rw [Array.getElem?_append_left (by simp; omega)]; simp [hvt]
          · simp only [condB, List.all_nil, if_true]
            refine ⟨by simpa [E.lt] using htl, ?_, ?_⟩
            · show Rep w S _ (den (fun i => ds.getD i .top) (.var t))
              rw [hden]; exact hrep t _ _ hvt hdt
            · show Has ty (den (fun i => ds.getD i .top) (.var t))
              rw [hden, hx]; exact hxh
        · cases hts
      · simp; omega
end

/-- No slices of their own among the results. -/
theorem CompOk.plainRep {w : World} {S : Foot} {τ : Nat → Value} {c : Bool × List RCell} {v : Value} {d : D} (h : CompOk w 0 S τ c v d) (hx : (c.2.all fun x => x.2.isNone) = true) : Rep w S v d ∧ Has (compTy c) d := by
  have hx' := List.all_eq_true.1 hx
  have cell : ∀ x ∈ c.2, ∀ v d, CellOk w 0 S τ x v d → Rep w S v d ∧ Has (rcTy x) d := by
    rintro ⟨t, x⟩ hm v d h
    have := hx' _ hm
    cases x with
    | none => exact h
    | some y => cases this
  unfold CompOk at h
  unfold compTy
  split at h
  · rename_i hc
    rw [if_pos hc]
    obtain ⟨vs, ds, rfl, rfl, h1, h2, h3⟩ := h
    refine ⟨.agg vs ds (by omega) fun i u y hu hy => ?_, has_agg.2 ⟨ds, rfl, hasL_mk (by simpa using h2) fun j u x hj hxx => ?_⟩⟩
    · have hi : i < c.2.length := by rw [← h1]; exact (List.getElem?_eq_some_iff.1 hu).1
      exact (cell _ (List.getElem_mem hi) _ _ (h3 i _ u y (List.getElem?_eq_getElem hi) hu hy)).1
    · simp only [List.getElem?_map, Option.map_eq_some_iff] at hj
      obtain ⟨r, hr, rfl⟩ := hj
      have hjl : j < c.2.length := (List.getElem?_eq_some_iff.1 hr).1
      exact (cell _ (List.mem_of_getElem? hr) _ _ (h3 j r _ x hr (List.getElem?_eq_getElem (by omega)) hxx)).2
  · rename_i hc
    rw [if_neg hc]
    obtain ⟨x, hxx, h1⟩ := h
    rw [hxx]
    exact cell _ (by rw [hxx]; simp) _ _ h1

section
variable {P : Program}
theorem wildFn_of_vc {f : Nat} {fn : Func} {c : Code} {sig : Sig} {r : Bool × List RCell} (cs : Tbl) (Φ : Nat → List D → D) (Pre : Nat → List D → Prop) (anns : List (Nat × Ann)) (v : VC)
    (hf : P.funcs[f]? = some fn) (hb : fn.body = some c) (hname : (fn.name == "runtime.NumGoroutine") = false) (hmix : P.follows .mixedOrders = true)
    (hps : sig.params.length ≤ fn.ntmps) (hcf : cs.fr = 2) (hres : sig.res = [r]) (hfr : (r.2.all fun x => x.2.isNone) = true)
    (hcon : ∀ k sig, lk cs.l k = some sig → PureFn P k sig (Pre k) (Φ k))
    (hv : vc ⟨P, cs, fn.ntmps, anns, [], []⟩ c (fun ex σ _ _ => match ex with | .exit _ => .stuck 20 | _ => retVC P sig fn σ) (St.start sig.params) sig.params.length 0 = v)
    (hc : ∀ ds, HasL (.ofL sig.params) ds → v.holds Φ Pre (fun _ => True) (fun i => ds.getD i .top) []) : WildFn P f sig.params (compTy r) where
  enter args w := by
    unfold callFunc
    have hbs : fn.body.isNone = false := by rw [hb]; rfl
    have hname' : fn.name ≠ "runtime.NumGoroutine" := by simpa using hname
    simp [hf, hb, hname']
  calls w S vs ds hS hlen hrep hty := by
    have hdl : ds.length = sig.params.length := by rw [hasL_len hty, Ty.toL_ofL]
    refine calls_of_wp hf hb ?_
    have hcond := hc ds hty
    rw [← hv] at hcond
    refine vc_sound (w0 := w) (S0 := ⟨fun _ _ => False, fun b => ∃ o, S b o, fun _ => none, False, True⟩) (N := ⟨P, cs, fn.ntmps, anns, [], []⟩) hmix hcon (fun _ _ _ _ _ _ b o hb => hb.elim)
      ⟨fun h => h.elim, fun _ => hcf⟩ (fun _ _ h => by cases h) (fun _ _ h => by cases h) (fun _ => ⟨fun _ _ h => h, trivial⟩) c _ _ _ 0 _ [] _ hcond rfl (fun i b h => (by cases h)) ?_ _ w ⟨S, fun _ => 0, fun _ => .nilIface⟩ ?_
    · intro ex σ' p' d' ρ' stk' a' w' G' _ _ _ _ hk hs
      have fin : (retVC P sig fn σ').holds Φ Pre (fun _ => True) ρ' stk' → a'.defers = [] ∧ ∃ v, (results fn a'.tmps).run P w' = .ok v w' ∧ ∃ v0 S' d, Ending.returned v = .returned v0 ∧ BelowX (fun b => ∃ o, S b o) w w' ∧ (∀ b o, S' b o → (∃ o', S b o') ∨ w.heap.size ≤ b) ∧
          (∀ b o, S' b o → b < w'.heap.size ∧ ∃ cur T, w'.heap[b]? = some (.cells cur T (0, 0))) ∧ Rep w' S' v0 d ∧ Has (compTy r) d := by
        intro hk
        refine ⟨hs.defers, ?_⟩
        unfold retVC at hk
        split at hk
        · rename_i es l hret
          split at hk
          · rename_i hok
            unfold ownOkB at hok
            simp only [Bool.and_eq_true, decide_eq_true_eq] at hok
            obtain ⟨hnt, hnj⟩ := hok
            obtain ⟨us, h1, h2, h3, h4, h5⟩ := run_retComps (L := l) hs hnj hret (fun x hx => hx)
            rw [hres] at h2 h3 h5
            obtain ⟨u, rfl⟩ : ∃ u, us = [u] := List.length_eq_one_iff.1 h2
            obtain ⟨e, rfl⟩ : ∃ e, es = [e] := List.length_eq_one_iff.1 h3
            obtain ⟨h7, h8⟩ := (h5 0 r u e rfl rfl rfl).plainRep hfr
            refine ⟨_, run_results h1, u, G'.S, _, rfl, hs.m.below, fun b o hb => ?_, fun b o hb => ⟨hs.m.footlt b o hb, hs.m.wz trivial b o hb⟩, h7, h8⟩
            rcases hs.m.footnew b o hb with h | h | h
            · exact h.elim
            · exact .inr h
            · exact .inl h
          · exact hk.elim
        · exact hk.elim
      cases ex with
      | normal => exact fin hk
      | ret => exact fin hk
      | exit i => exact hk.elim
    · refine ⟨⟨BelowX.refl _ _, fun _ _ h => h.elim, fun _ _ h => h.elim, fun i b h => (by cases h), fun i b h => (by cases h), fun b o hb => (hS b o hb).1, fun b o hb => .inr (.inr ⟨o, hb⟩), ?_, ?_, ?_, ?_, fun g x b hx => (by cases hx), ?_, ?_, fun h => h.elim, fun _ b o hb => (hS b o hb).2⟩, ?_, ?_, rfl⟩
      · intro id x hx; cases hx
      · intro id ro cs hx; cases hx
      · intro i j x y hx; cases hx
      · intro g e T t hx; cases hx
      · intro g g' x y b hx; cases hx
      · intro g id x y b hx; cases hx
      · intro t c s hts
        simp only [St.start] at hts
        split at hts
        · rename_i ty hty'
          injection hts with hts; simp only [Prod.mk.injEq] at hts; obtain ⟨rfl, rfl⟩ := hts
          have htl : t < sig.params.length := (List.getElem?_eq_some_iff.1 hty').1
          have hdt : ds[t]? = some (ds[t]'(by omega)) := List.getElem?_eq_getElem _
          have hvt : vs[t]? = some (vs[t]'(by omega)) := List.getElem?_eq_getElem _
          obtain ⟨x, hx, hxh⟩ := hasL_get hty t ty (by rw [Ty.toL_ofL]; exact hty')
          rw [hdt] at hx; injection hx with hx
          have hden : den (fun i => ds.getD i .top) (.var t) = ds[t]'(by omega) := by show ds.getD t .top = _; exact toL_getD hdt
          refine ⟨vs[t]'(by omega), ?_, by simp, by simpa [SV.lt, SC.lt, E.lt] using htl, ?_⟩
          · rw [Array.getElem?_append_left (by simp; omega)]; simp [hvt]
          · simp only [condB, List.all_nil, if_true]
            refine ⟨by simpa [E.lt] using htl, ?_, ?_⟩
            · show Rep w S _ (den (fun i => ds.getD i .top) (.var t))
              rw [hden]; exact hrep t _ _ hvt hdt
            · show Has ty (den (fun i => ds.getD i .top) (.var t))
              rw [hden, hx]; exact hxh
        · cases hts
      · simp; omega
end

/-- The same, by program: what is asked of the function's own form. -/
def fvcF (P : Program) (cs : List (Nat × Sig)) (given : List (Nat × Ann)) (sig : Sig) (fn : Func) : VC := fvc P ⟨cs, [], 1⟩ (autoAnn P given fn.body) sig fn
def fvcW (P : Program) (sig : Sig) (fn : Func) : VC := fvc P ⟨[], [], 2⟩ (autoAnn P [] fn.body) sig fn
def fvcC (P : Program) (cs : List (Nat × Sig)) (fw wl : FTbl) (given : List (Nat × Ann)) (sig : Sig) (fn : Func) : VC :=
  match fn.body with
  | some c => vc ⟨P, ⟨cs, exOf given fn.body, 0⟩, fn.ntmps, autoAnn P given fn.body, fw, wl⟩ c (fun ex σ _ _ => match ex with | .exit _ => .stuck 20 | _ => retVC P sig fn σ) (St.start sig.params) sig.params.length 0
  | none => .stuck 30
section
variable {P : Program} {f : Nat} {fn : Func} {sig : Sig} {Pre0 : List D → Prop} {Φ0 : List D → D} {cs : List (Nat × Sig)} {Φ : Nat → List D → D} {Pre : Nat → List D → Prop} {given : List (Nat × Ann)} {v : VC}
theorem freshFn_auto {r : Bool × List RCell} (hmix : P.follows .mixedOrders = true) (hcon : Con P Pre Φ cs) (hf : P.funcs[f]? = some fn) (hB : fnB fn sig = true) (hres : sig.res = [r]) (hfr : freshRes r = true) (hv : fvcF P cs given sig fn = v)
    (hc : ∀ ds, HasL (.ofL sig.params) ds → Pre0 ds → v.holds Φ Pre (fun d => d = Φ0 ds) (fun i => ds.getD i .top) []) : FreshFn P f sig.params (compTy r) Pre0 Φ0 := by
  unfold fnB at hB
  simp only [Bool.and_eq_true, decide_eq_true_eq] at hB
  obtain ⟨⟨⟨h0, h1⟩, h2⟩, h3⟩ := hB
  obtain ⟨c, hb⟩ := Option.isSome_iff_exists.1 h1
  refine freshFn_of_vc ⟨cs, [], 1⟩ Φ Pre (autoAnn P given fn.body) v hf hb (by simpa using h2) hmix h3 rfl hres hfr hcon ?_ hc
  unfold fvcF fvc at hv
  rw [hb] at hv ⊢
  exact hv
theorem wildFn_auto {r : Bool × List RCell} (hmix : P.follows .mixedOrders = true) (hf : P.funcs[f]? = some fn) (hB : fnB fn sig = true) (hres : sig.res = [r]) (hfr : (r.2.all fun x => x.2.isNone) = true) (hv : fvcW P sig fn = v)
    (hc : ∀ ds, HasL (.ofL sig.params) ds → v.holds (fun _ _ => .top) (fun _ _ => True) (fun _ => True) (fun i => ds.getD i .top) []) : WildFn P f sig.params (compTy r) := by
  unfold fnB at hB
  simp only [Bool.and_eq_true, decide_eq_true_eq] at hB
  obtain ⟨⟨⟨h0, h1⟩, h2⟩, h3⟩ := hB
  obtain ⟨c, hb⟩ := Option.isSome_iff_exists.1 h1
  refine wildFn_of_vc ⟨[], [], 2⟩ (fun _ _ => .top) (fun _ _ => True) (autoAnn P [] fn.body) v hf hb (by simpa using h2) hmix h3 rfl hres hfr (fun _ _ h => by cases h) ?_ hc
  unfold fvcW fvc at hv
  rw [hb] at hv ⊢
  exact hv
theorem pureFn_autoC {fw wl : FTbl} (hmix : P.follows .mixedOrders = true) (hcon : Con P Pre Φ cs) (hfw : ∀ k y, lk fw k = some y → FreshFn P k y.1 y.2 (fun _ => True) (Φ k)) (hwl : ∀ k y, lk wl k = some y → WildFn P k y.1 y.2)
    (hf : P.funcs[f]? = some fn) (hB : fnB fn sig = true) (hv : fvcC P cs fw wl given sig fn = v)
    (hc : ∀ ds, HasL (.ofL sig.params) ds → Pre0 ds → v.holds Φ Pre (fun d => d = Φ0 ds) (fun i => ds.getD i .top) []) (hnf : noFr sig.res = true := by rfl) : PureFn P f sig Pre0 Φ0 := by
  unfold fnB at hB
  simp only [Bool.and_eq_true, decide_eq_true_eq] at hB
  obtain ⟨⟨⟨h0, h1⟩, h2⟩, h3⟩ := hB
  obtain ⟨c, hb⟩ := Option.isSome_iff_exists.1 h1
  refine pureFn_of_vc ⟨cs, exOf given fn.body, 0⟩ fw wl Φ Pre (autoAnn P given fn.body) v hf hb (by simpa using h2) hmix h3 (by simpa using h0) hcon (.inl ⟨rfl, hnf⟩) hfw hwl ?_ hc
  unfold fvcC at hv
  rw [hb] at hv ⊢
  exact hv
end
section
variable {Φ : Nat → List D → D} {Pre : Nat → List D → Prop} {R : D → Prop} {ρ : Nat → D} {stk : List (List D → Prop)}
theorem vh_any {p : Nat} {t : Ty} {k : VC} : (VC.any p t k).holds Φ Pre R ρ stk = ∀ d, Has t d → k.holds Φ Pre R (upd ρ p d) stk := rfl
theorem vh_hav {p : Nat} {fs : List (E × E)} {k : VC} : (VC.hav p fs k).holds Φ Pre R ρ stk = ∀ d, (∀ x ∈ fs, (den (upd ρ p d) x.1).toL.length = (den (upd ρ p d) x.2).toL.length) → k.holds Φ Pre R (upd ρ p d) stk := rfl
end
end Go.Eng
