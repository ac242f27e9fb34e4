/-
  Function literals and calls.
-/
import Derived.Test.YtjpkeliliahjoaaEngK
namespace Go.Eng
open Go Go.RowKit

section
variable {P : Program} {C : Cx} {w w0 : World} {S0 : Base} {G : Gh} {σ : St} {a : Act} {o : Oper} {pc : Cond} {s : SV} {is : List Item} {Φ : Nat → List D → D} {Pre : Nat → List D → Prop} {n p : Nat}

theorem SimM.freezes (hm : SimM w0 S0 C G σ w) : ∀ (fz : List (Nat × List SC)), (∀ x ∈ fz, ∃ ro, σ.hp x.1 = some (ro, x.2)) →
    ∃ G', Later C w G C w G' ∧ SimM w0 S0 C G' { σ with hp := updL σ.hp (fz.map fun x => (x.1, some (true, x.2))) } w ∧ (∀ x ∈ fz, ∀ o, o < x.2.length → G'.S (G.β x.1) o) ∧ G'.β = G.β
  | [], _ => ⟨G, Later.refl C w G, hm.congr (updL_nil _) rfl, by simp, rfl⟩
  | (id, cs) :: fz, h => by
    obtain ⟨G1, l1, m1, c1, b1⟩ := SimM.freezes hm fz (fun x hx => h x (List.mem_cons_of_mem _ hx))
    obtain ⟨ro, hid⟩ := h (id, cs) (by simp)
    simp only at hid
    have hid1 : ∃ ro', updL σ.hp (fz.map fun x => (x.1, some (true, x.2))) id = some (ro', cs) := by
      unfold updL
      cases hl : lk (fz.map fun x => (x.1, some (true, x.2))) id with
      | none => exact ⟨ro, hid⟩
      | some v =>
        have := lk_mem hl
        simp only [List.mem_map, Prod.mk.injEq] at this
        obtain ⟨x, hx, rfl, rfl⟩ := this
        obtain ⟨ro2, h2⟩ := h x (List.mem_cons_of_mem _ hx)
        rw [hid] at h2
        injection h2 with h2; simp only [Prod.mk.injEq] at h2
        exact ⟨true, by rw [h2.2]⟩
    obtain ⟨ro', hid1⟩ := hid1
    obtain ⟨G2, l2, m2, c2, b2, _⟩ := m1.freeze (id := id) (ro := ro') (cs := cs) hid1
    refine ⟨G2, l1.trans l2, ?_, ?_, by rw [b2, b1]⟩
    · refine m2.congr ?_ rfl
      show updL σ.hp ((id, some (true, cs)) :: fz.map fun x => (x.1, some (true, x.2))) = upd (updL σ.hp (fz.map fun x => (x.1, some (true, x.2)))) id (some (true, cs))
      rw [updL_cons]; rfl
    · intro x hx o ho
      rcases List.mem_cons.1 hx with rfl | hx
      · rw [← b1]; exact c2 o ho
      · exact l2.S _ _ (c1 x hx o ho)

theorem capsE_hp : ∀ {l : List Operand} {es : List (E × Ty)} {fz : List (Nat × List SC)}, capsE P σ pc l = some (es, fz) → ∀ x ∈ fz, ∃ ro, σ.hp x.1 = some (ro, x.2)
  | [], es, fz, h => by simp only [capsE, Option.some.injEq, Prod.mk.injEq] at h; obtain ⟨rfl, rfl⟩ := h; simp
  | y :: l, es, fz, h => by
    simp only [capsE] at h
    split at h
    · rename_i id es' fz' hg hr
      split at h
      · rename_i ro cs hid
        split at h
        · injection h with h; simp only [Prod.mk.injEq] at h; obtain ⟨rfl, rfl⟩ := h
          intro x hx
          rcases List.mem_cons.1 hx with rfl | hx
          · exact ⟨ro, hid⟩
          · exact capsE_hp hr x hx
        · cases h
      · cases h
    · rename_i e fs es' fz' hg hr
      injection h with h; simp only [Prod.mk.injEq] at h; obtain ⟨rfl, rfl⟩ := h
      exact capsE_hp hr
    · cases h

theorem capsE_ok (hm : SimM w0 S0 C G σ w) (ht : SimT C w G σ.tm a) (hpc : condB C.ρ pc = true) {G' : Gh} (hlat : Later C w G C w G') : ∀ {l : List Operand} {es : List (E × Ty)} {fz : List (Nat × List SC)}, capsE P σ pc l = some (es, fz) →
    (∀ x ∈ fz, ∀ o, o < x.2.length → G'.S (G.β x.1) o) → es.length = l.length ∧ ∀ (i : Nat) x e, l[i]? = some x → es[i]? = some e → e.1.lt C.N = true ∧ Rep w G'.S (a.eval x) (den C.ρ e.1) ∧ Has e.2 (den C.ρ e.1)
  | [], es, fz, h, _ => by simp only [capsE, Option.some.injEq, Prod.mk.injEq] at h; obtain ⟨rfl, rfl⟩ := h; exact ⟨rfl, by intro i x e hi; simp at hi⟩
  | y :: l, es, fz, h, hS => by
    simp only [capsE] at h
    split at h
    · rename_i id es' fz' hg hr
      split at h
      · rename_i ro cs hid
        split at h
        · rename_i ds ts hds
          injection h with h; simp only [Prod.mk.injEq] at h; obtain ⟨rfl, rfl⟩ := h
          obtain ⟨k1, k2⟩ := capsE_ok hm ht hpc hlat hr (fun x hx => hS x (List.mem_cons_of_mem _ hx))
          refine ⟨by simp [k1], fun i x e hi he => ?_⟩
          cases i with
          | succ i => exact k2 i x e (by simpa using hi) (by simpa using he)
          | zero =>
            simp at hi he; subst hi; subst he
            have hv := (getV_ok ht hpc hg).2
            obtain ⟨_, _, ⟨vs, T, hgb, hrc⟩, _⟩ := hm.box _ _ _ hid
            obtain ⟨m1, m2, m3, m4, m5⟩ := asDatas_ok hds hrc
            have hd : den C.ρ (.un .ptrc (.ofL ds)) = .ptr (ds.map (den C.ρ)) := by simp only [den, den_ofL, U.den, D.toL]
            refine ⟨by simpa [E.lt] using m1, ?_, ?_⟩
            · rw [hd, hv]
              refine .ptr _ vs _ (by simp [m2]) (fun i hi => hS (id, cs) (by simp) i (by simp [m2, hrc.1] at hi; exact hi)) (fun i v hi => ?_) (fun i v d hi hdd => ?_)
              · rw [cell_of_row w _ i _ T _ hgb]; simpa using hi
              · simp only [List.getElem?_map, Option.map_eq_some_iff] at hdd
                obtain ⟨e, he, rfl⟩ := hdd
                exact (m4 i v e hi he).keep hlat.S hlat.cell
            · rw [hd]; exact has_box.2 ⟨_, rfl, m5⟩
        · cases h
      · cases h
    · rename_i e fs es' fz' hg hr
      injection h with h; simp only [Prod.mk.injEq] at h; obtain ⟨rfl, rfl⟩ := h
      obtain ⟨k1, k2⟩ := capsE_ok hm ht hpc hlat hr hS
      refine ⟨by simp [k1], fun i x e' hi he => ?_⟩
      cases i with
      | succ i => exact k2 i x e' (by simpa using hi) (by simpa using he)
      | zero =>
        simp at hi he; subst hi; subst he
        obtain ⟨q1, q2, q3⟩ := getV_ok ht hpc hg
        exact ⟨q1, q2.keep hlat.S hlat.cell, q3⟩
    · cases h

theorem stepped_fn {ops : Array Oper} {e : E} {t : Ty} {fz : List (Nat × List SC)} (hs : Sim n w0 S0 C G σ a w) (hg : guardOf ops σ o = some pc) (h : opFn P σ pc o = some (e, t, fz)) (hlt : e.lt C.N = true)
    (hdst : ∀ d, o.dst = some d → d < n) :
    Stepped1 P n w0 S0 C ((⟨o.dst, (pc, .one (.dat e t)), fz.map fun x => (x.1, some (true, x.2)), [], fz.map (·.1), []⟩ : Eff).app σ) p ops a w o := by
  intro K Q hK
  obtain ⟨hw, hc⟩ := guardOf_ok hs.t hg
  rw [hw]
  unfold opFn at h
  split at h
  · rename_i f first captured ho
    split at h
    · rename_i hfirst
      split at h
      · rename_i es fz' hcaps
        injection h with h; simp only [Prod.mk.injEq] at h; obtain ⟨hE, hT, hF⟩ := h
        subst hF
        obtain ⟨G', hlat, hm, hcov, hβ⟩ := hs.m.freezes fz' (capsE_hp hcaps)
        have hlat' := hlat.trans (Later.addM C w G' p)
        have hm' := (hm.addM p)
        have fin := fun (v : Value) hv => hs.step (o := o) (v := v) (e := (⟨o.dst, (pc, .one (.dat e t)), fz'.map fun x => (x.1, some (true, x.2)), [], fz'.map (·.1), []⟩ : Eff)) hlat' (hm'.congr rfl (updL_nil _)) rfl hlt hc hv hdst
        cases hpc : condB C.ρ pc with
        | false =>
          simp only [Bool.false_eq_true, if_false]
          exact hK _ _ _ (fin _ (by intro _; simp only [hpc, Bool.false_eq_true, if_false]))
        | true =>
          simp only [if_true]
          obtain ⟨k1, k2⟩ := capsE_ok hs.m hs.t hpc hlat hcaps hcov
          have hf0 : first = #[] := by apply Array.ext'; simpa using hfirst
          have hrun : (execOp a.eval o).run P w = .ok (.value (.func (.func f) #[] (captured.toList.map a.eval).toArray)) w := by
            have hm0 : (captured.toList.map a.eval).toArray = captured.map a.eval := by apply Array.ext'; simp
            unfold execOp; simp only [ho, Instr.makeFunc, hf0, hm0]
            simp
          unfold Oper.wp
          rw [hrun]
          refine hK _ _ _ (fin _ ?_)
          intro _; simp only [hpc, if_true]
          have hd : den C.ρ e = .fn f ((es.map (·.1)).map (den C.ρ)) := by rw [← hE]; simp only [den, den_ofL, U.den, D.toL]
          refine ⟨hlt, ?_, ?_⟩
          · show Rep w G'.S _ (den C.ρ _)
            rw [hd]
            refine .fn f _ _ (by simp [k1]) fun i v d hi hdd => ?_
            simp only [List.getElem?_map, Option.map_eq_some_iff] at hi hdd
            obtain ⟨x, hx, rfl⟩ := hi
            obtain ⟨e1, ⟨e2, he2, rfl⟩, rfl⟩ := hdd
            exact (k2 i x e2 hx he2).2.1
          · show Has _ (den C.ρ _)
            rw [hd, ← hT]
            refine has_fn.2 ⟨_, rfl, hasL_mk (by simp) fun j u x hj hx => ?_⟩
            simp only [List.getElem?_map, Option.map_eq_some_iff] at hj hx
            obtain ⟨e1, he1, rfl⟩ := hj
            obtain ⟨_, ⟨e2, he2, rfl⟩, rfl⟩ := hx
            rw [he1] at he2; injection he2 with he2; subst he2
            have hlen : j < captured.toList.length := by rw [← k1]; exact (List.getElem?_eq_some_iff.1 he1).1
            exact (k2 j _ e1 (List.getElem?_eq_getElem hlen) he1).2.2
      · cases h
    · cases h
  · cases h

theorem argsE_ok (ht : SimT C w G σ.tm a) (hpc : condB C.ρ pc = true) : ∀ {l : List Operand} {ts : List TypeId} {es : List (E × Ty)}, argsE P σ pc l ts = some es →
    es.length = l.length ∧ ∀ (i : Nat) x e, l[i]? = some x → es[i]? = some e → Rep w G.S (a.eval x) (den C.ρ e.1) ∧ Has e.2 (den C.ρ e.1)
  | [], [], es, h => by simp only [argsE, Option.some.injEq] at h; subst h; exact ⟨rfl, by intro i x e hi; simp at hi⟩
  | y :: l, t :: ts, es, h => by
    simp only [argsE] at h
    split at h
    · rename_i e es' h1 h2
      injection h with h; subst h
      obtain ⟨k1, k2⟩ := argsE_ok ht hpc h2
      refine ⟨by simp [k1], fun i x e' hi he => ?_⟩
      cases i with
      | zero => simp at hi he; subst hi; subst he; exact (getD_ok ht hpc h1).2
      | succ i => exact k2 i x e' (by simpa using hi) (by simpa using he)
    · cases h
  | [], _ :: _, _, h => by cases h
  | _ :: _, [], _, h => by cases h

theorem OwnD.ok {base : Nat} {S : Foot} {T : TypeId} {t : Ty} {v : Value} {d : D} {g : Tag} (h : OwnD g.ex w base S T t v d) {e : E} (hM : C.M g.1) (he : e.lt C.N = true) (hd : den C.ρ e = d) (hS : G.S = S) (hτ : G.τ g = v) :
    OwnOk C w base G g e T t := by
  obtain ⟨h1, h2, h3⟩ := h
  subst hd; subst hS; subst hτ
  exact ⟨hM, he, h1, h3⟩

theorem cellsSC_get (own : Bool) (p : Nat) (e : E) : ∀ (l : List RCell) (j i : Nat), (cellsSC own p e j l)[i]? = (l[i]?).map fun c => cellSC own p (.un (.cell (j + i)) e) c
  | [], j, i => by simp [cellsSC]
  | c :: l, j, 0 => by simp [cellsSC]
  | c :: l, j, i + 1 => by simp only [cellsSC, List.getElem?_cons_succ, cellsSC_get own p e l (j + 1) i]; congr 2; funext t; congr 3; omega
theorem cellsSC_len (own : Bool) (p : Nat) (e : E) : ∀ (l : List RCell) (j : Nat), (cellsSC own p e j l).length = l.length
  | [], _ => rfl
  | _ :: l, j => by simp [cellsSC, cellsSC_len own p e l]
theorem compsSC_get (own : Bool) (p : Nat) (e : E) : ∀ (l : List (Bool × List RCell)) (j i : Nat), (compsSC own p e j l)[i]? = (l[i]?).map fun c => compSC own p (.un (.cell (j + i)) e) c
  | [], j, i => by simp [compsSC]
  | c :: l, j, 0 => by simp [compsSC]
  | c :: l, j, i + 1 => by simp only [compsSC, List.getElem?_cons_succ, compsSC_get own p e l (j + 1) i]; congr 2; funext t; congr 3; omega
theorem compsSC_len (own : Bool) (p : Nat) (e : E) : ∀ (l : List (Bool × List RCell)) (j : Nat), (compsSC own p e j l).length = l.length
  | [], _ => rfl
  | _ :: l, j => by simp [compsSC, compsSC_len own p e l]

theorem cellSC_ok {base : Nat} {τ : Nat → Value} {c : RCell} {v : Value} {d : D} {e : E} (h : CellOk w base G.S τ c v d) (hM : C.M p) (he : e.lt C.N = true) (hd : den C.ρ e = d) (hτ : ∀ j, G.τ (p, j) = τ j) (own : Bool) (hx : own = true ∨ ∀ j T, c.2 = some (j, T) → exN j = false := by exact .inl rfl) :
    RSC C w G (cellSC own p e c) v := by
  obtain ⟨t, _ | ⟨j, T⟩⟩ := c
  · obtain ⟨h1, h2⟩ := h
    exact ⟨he, hd ▸ h1, hd ▸ h2⟩
  · obtain ⟨rfl, h2⟩ := h
    have hok := OwnD.ok (C := C) (G := G) (g := (p, j)) h2 hM he hd rfl (hτ j)
    cases hej : exN j with
    | true =>
      have ho : own = true := hx.elim id fun h => by rw [h j T rfl] at hej; cases hej
      subst ho
      simp only [cellSC, if_true, hej]
      refine ⟨hM, (hτ j).symm, ?_⟩
      obtain ⟨xs, l, _, hown, _⟩ := h2.own
      rcases hown.2 with ⟨hv, _⟩ | ⟨b, cap, cur, hv, _⟩
      · exact ⟨_, _, _, hv⟩
      · exact ⟨_, _, _, hv⟩
    | false =>
      have hrep := hok.rep h2.sz hej
      rw [hτ j] at hrep
      cases own with
      | true => simp only [cellSC, if_true, hej, Bool.false_eq_true, if_false]; exact ⟨hM, he, hrep, hok.has, (hτ j).symm⟩
      | false => exact ⟨he, hrep, hok.has⟩

theorem compSC_ok {base : Nat} {τ : Nat → Value} {c : Bool × List RCell} {v : Value} {d : D} {e : E} (h : CompOk w base G.S τ c v d) (hM : C.M p) (he : e.lt C.N = true) (hd : den C.ρ e = d) (hτ : ∀ j, G.τ (p, j) = τ j) (own : Bool) (hx : own = true ∨ ∀ y ∈ c.2, ∀ j T, y.2 = some (j, T) → exN j = false := by exact .inl rfl) :
    RComp C w G (compSC own p e c) v := by
  have hx' := hx
  clear hx
  unfold CompOk at h
  unfold RComp compSC
  cases hc : c.1 with
  | true =>
    simp only [hc, if_true] at h ⊢
    obtain ⟨vs, ds, rfl, rfl, hl1, hl2, hcell⟩ := h
    refine ⟨vs, rfl, by rw [cellsSC_len, hl1], fun i x u hx hu => ?_⟩
    rw [cellsSC_get] at hx
    simp only [Option.map_eq_some_iff] at hx
    obtain ⟨y, hy, rfl⟩ := hx
    have hil : i < ds.length := by rw [hl2]; exact (List.getElem?_eq_some_iff.1 hy).1
    have hdi : ds[i]? = some ds[i] := List.getElem?_eq_getElem hil
    refine cellSC_ok (hcell i y u _ hy hu hdi) hM (by simpa [E.lt] using he) ?_ hτ own (hx'.imp id fun h => h y (List.mem_of_getElem? hy))
    simp only [den, U.den, hd, D.toL, Nat.zero_add]; exact toL_getD hdi
  | false =>
    simp only [hc, Bool.false_eq_true, if_false] at h ⊢
    obtain ⟨x, hx, hx2⟩ := h
    exact ⟨cellSC own p e x, by rw [hx]; rfl, cellSC_ok hx2 hM he hd hτ own (hx'.imp id fun h => h x (by rw [hx]; simp))⟩

theorem resSVx_ok {base : Nat} {τ : Nat → Value} {res : List (Bool × List RCell)} {v : Value} {e : E} (h : ResOk w base G.S τ res v (den C.ρ e)) (hM : C.M p) (he : e.lt C.N = true) (hτ : ∀ j, G.τ (p, j) = τ j) (own : Bool) (hx : own = true ∨ noEx res = true := by exact .inl rfl) :
    RSV C w G (resSVx own p e res) v := by
  have hx' : own = true ∨ ∀ c ∈ res, ∀ y ∈ c.2, ∀ j T, y.2 = some (j, T) → exN j = false := hx.imp id fun h c hc y hy j T hj => by
    have := List.all_eq_true.1 (List.all_eq_true.1 h c hc) y hy
    rw [hj] at this; simpa using this
  clear hx
  rcases h with ⟨c, rfl, h⟩ | ⟨hne, vs, ds, rfl, hd, hl1, hl2, hcomp⟩
  · have := compSC_ok h hM he rfl hτ own (hx'.imp id fun h => h c (by simp))
    unfold RComp at this
    simp only [resSVx]
    split
    · rename_i l hl
      rw [hl] at this
      simpa [RSV] using this
    · rename_i l hl
      rw [hl] at this
      simp only [Bool.false_eq_true, if_false] at this
      obtain ⟨c', rfl, hc'⟩ := this
      exact hc'
  · have hr : resSVx own p e res = .tup (compsSC own p e 0 res) := by
      match res, hne with
      | [], _ => rfl
      | [c], hne => exact absurd rfl hne
      | _ :: _ :: _, _ => rfl
    rw [hr]
    refine ⟨vs, rfl, by rw [compsSC_len, hl1], fun i x u hx hu => ?_⟩
    rw [compsSC_get] at hx
    simp only [Option.map_eq_some_iff] at hx
    obtain ⟨y, hy, rfl⟩ := hx
    have hil : i < ds.length := by rw [hl2]; exact (List.getElem?_eq_some_iff.1 hy).1
    have hdi : ds[i]? = some ds[i] := List.getElem?_eq_getElem hil
    refine compSC_ok (hcomp i y u _ hy hu hdi) hM (by simpa [E.lt] using he) ?_ hτ own (hx'.imp id fun h => h y (List.mem_of_getElem? hy))
    simp only [den, U.den, hd, D.toL, Nat.zero_add]; exact toL_getD hdi

/-- What a live entry of a result stands for. -/
def LiveOk (C : Cx) (w : World) (base : Nat) (G : Gh) (p : Nat) (idx : List Nat) (x : Tag × Option (E × TypeId × Ty)) : Prop :=
  x.1.1 = p ∧ x.1.2 ∈ idx ∧ ∃ e T t, x.2 = some (e, T, t) ∧ OwnOk C w base G x.1 e T t

theorem cellLive_ok {base : Nat} {τ : Nat → Value} {c : RCell} {v : Value} {d : D} {e : E} {idx : List Nat} (h : CellOk w base G.S τ c v d) (hM : C.M p) (he : e.lt C.N = true) (hd : den C.ρ e = d) (hτ : ∀ j, G.τ (p, j) = τ j)
    (hidx : ∀ j T, c.2 = some (j, T) → j ∈ idx) : ∀ x ∈ cellLive p e c, LiveOk C w base G p idx x := by
  obtain ⟨t, _ | ⟨j, T⟩⟩ := c
  · intro x hx; simp [cellLive] at hx
  · intro x hx
    simp only [cellLive, List.mem_singleton] at hx
    subst hx
    obtain ⟨rfl, h2⟩ := h
    exact ⟨rfl, hidx j T rfl, e, T, t, rfl, OwnD.ok (g := (p, j)) h2 hM he hd rfl (hτ j)⟩

theorem cellsLive_mem (p : Nat) (e : E) : ∀ (l : List RCell) (j : Nat) (x), x ∈ cellsLive p e j l → ∃ (i : Nat) (c : RCell), l[i]? = some c ∧ x ∈ cellLive p (.un (.cell (j + i)) e) c
  | [], j, x, h => by simp [cellsLive] at h
  | c :: l, j, x, h => by
    simp only [cellsLive, List.mem_append] at h
    rcases h with h | h
    · exact ⟨0, c, rfl, h⟩
    · obtain ⟨i, c', h1, h2⟩ := cellsLive_mem p e l (j + 1) x h
      exact ⟨i + 1, c', by simpa using h1, by rw [show j + (i + 1) = j + 1 + i by omega]; exact h2⟩
theorem compsLive_mem (p : Nat) (e : E) : ∀ (l : List (Bool × List RCell)) (j : Nat) (x), x ∈ compsLive p e j l → ∃ (i : Nat) (c : Bool × List RCell), l[i]? = some c ∧ x ∈ compLive p (.un (.cell (j + i)) e) c
  | [], j, x, h => by simp [compsLive] at h
  | c :: l, j, x, h => by
    simp only [compsLive, List.mem_append] at h
    rcases h with h | h
    · exact ⟨0, c, rfl, h⟩
    · obtain ⟨i, c', h1, h2⟩ := compsLive_mem p e l (j + 1) x h
      exact ⟨i + 1, c', by simpa using h1, by rw [show j + (i + 1) = j + 1 + i by omega]; exact h2⟩

theorem compLive_ok {base : Nat} {τ : Nat → Value} {c : Bool × List RCell} {v : Value} {d : D} {e : E} {idx : List Nat} (h : CompOk w base G.S τ c v d) (hM : C.M p) (he : e.lt C.N = true) (hd : den C.ρ e = d) (hτ : ∀ j, G.τ (p, j) = τ j)
    (hidx : ∀ y ∈ c.2, ∀ j T, y.2 = some (j, T) → j ∈ idx) : ∀ x ∈ compLive p e c, LiveOk C w base G p idx x := by
  intro x hx
  unfold CompOk at h
  unfold compLive at hx
  cases hc : c.1 with
  | true =>
    simp only [hc, if_true] at h hx
    obtain ⟨vs, ds, rfl, rfl, hl1, hl2, hcell⟩ := h
    obtain ⟨i, y, hy, hx⟩ := cellsLive_mem p e _ _ _ hx
    have hil : i < c.2.length := (List.getElem?_eq_some_iff.1 hy).1
    have hdi : ds[i]? = some (ds[i]'(by omega)) := List.getElem?_eq_getElem _
    have hvi : vs[i]? = some (vs[i]'(by omega)) := List.getElem?_eq_getElem _
    refine cellLive_ok (hcell i y _ _ hy hvi hdi) hM (by simpa [E.lt] using he) ?_ hτ (fun j T hj => hidx y (List.mem_of_getElem? hy) j T hj) x hx
    simp only [den, U.den, hd, D.toL, Nat.zero_add]; exact toL_getD hdi
  | false =>
    simp only [hc, Bool.false_eq_true, if_false] at h hx
    obtain ⟨y, hy, hy2⟩ := h
    rw [hy] at hx
    simp only [List.flatMap_cons, List.flatMap_nil, List.append_nil] at hx
    exact cellLive_ok hy2 hM he hd hτ (fun j T hj => hidx y (by rw [hy]; simp) j T hj) x hx

theorem resLivex_ok {base : Nat} {τ : Nat → Value} {res : List (Bool × List RCell)} {v : Value} {e : E} (h : ResOk w base G.S τ res v (den C.ρ e)) (hM : C.M p) (he : e.lt C.N = true) (hτ : ∀ j, G.τ (p, j) = τ j) :
    ∀ x ∈ resLivex p e res, LiveOk C w base G p (ownIdx res) x := by
  have hidx : ∀ c ∈ res, ∀ y ∈ c.2, ∀ j T, y.2 = some (j, T) → j ∈ ownIdx res := by
    intro c hc y hy j T hj
    unfold ownIdx
    rw [List.mem_flatMap]
    exact ⟨c, hc, List.mem_filterMap.2 ⟨y, hy, by rw [hj]; rfl⟩⟩
  rcases h with ⟨c, rfl, h⟩ | ⟨hne, vs, ds, rfl, hd, hl1, hl2, hcomp⟩
  · exact compLive_ok h hM he rfl hτ (hidx c (by simp))
  · have hr : resLivex p e res = compsLive p e 0 res := by
      match res, hne with
      | [], _ => rfl
      | [c], hne => exact absurd rfl hne
      | _ :: _ :: _, _ => rfl
    rw [hr]
    intro x hx
    obtain ⟨i, y, hy, hx⟩ := compsLive_mem p _ _ _ _ hx
    have hil : i < res.length := (List.getElem?_eq_some_iff.1 hy).1
    have hdi : ds[i]? = some (ds[i]'(by omega)) := List.getElem?_eq_getElem _
    have hvi : vs[i]? = some (vs[i]'(by omega)) := List.getElem?_eq_getElem _
    refine compLive_ok (hcomp i y _ _ hy hvi hdi) hM (by simpa [E.lt] using he) ?_ hτ (hidx y (List.mem_of_getElem? hy)) x hx
    simp only [den, U.den, hd, D.toL, Nat.zero_add]; exact toL_getD hdi

theorem resSV_ok {base : Nat} {τ : Nat → Value} {res : List (Bool × List RCell)} {v : Value} (h : ResOk w base G.S τ res v (C.ρ p)) (hM : C.M p) (hp : p < C.N) (hτ : ∀ j, G.τ (p, j) = τ j) (own : Bool) (hx : own = true ∨ noEx res = true := by exact .inl rfl) :
    RSV C w G (resSV own p res) v := resSVx_ok (e := .var p) h hM (by simpa [E.lt] using hp) hτ own hx
theorem resLive_ok {base : Nat} {τ : Nat → Value} {res : List (Bool × List RCell)} {v : Value} (h : ResOk w base G.S τ res v (C.ρ p)) (hM : C.M p) (hp : p < C.N) (hτ : ∀ j, G.τ (p, j) = τ j) :
    ∀ x ∈ resLive p res, LiveOk C w base G p (ownIdx res) x := resLivex_ok (e := .var p) h hM (by simpa [E.lt] using hp) hτ
end
end Go.Eng
