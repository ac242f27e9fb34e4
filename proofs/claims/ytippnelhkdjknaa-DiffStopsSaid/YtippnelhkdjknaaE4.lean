/-
  A run of the code in plain data, and that it is sound (4).
-/
import Derived.Test.YtippnelhkdjknaaE3
/- Slices of their own kind: made, grown, handed to calls. -/
namespace Go.Eng
open Go Go.RowKit

section
variable {P : Program} {C : Cx} {w w0 : World} {S0 : Base} {G : Gh} {σ : St} {a : Act} {o : Oper} {pc : Cond} {s : SV} {is : List Item} {Φ : Nat → List D → D} {Pre : Nat → List D → Prop} {n p : Nat} {cs : Tbl}

theorem stepped_appX {ops : Array Oper} {g : Option Tag} {e1 e2 : E} {T : TypeId} {t : Ty} {b : Nat} (hs : Sim n w0 S0 C G σ a w) (hp : ¬ C.M p) (hg : guardOf ops σ o = some [])
    (h : opAppX P σ o = some (g, e1, e2, T, t, b)) (hit : ItemOk C Φ Pre (.room [] (.bin .cat e1 e2) b)) (hdst : ∀ d, o.dst = some d → d < n) (items : List Item) (hnf : ¬ S0.fr) (hnw : ¬ S0.wz) :
    Stepped1 P n w0 S0 C ((⟨o.dst, ([], .one (.xo (p, 1000) t)), [], (match g with | some g => [(g, none)] | none => []) ++ [((p, 1000), some (.bin .cat e1 e2, T, t))], [], items⟩ : Eff).app σ) p ops a w o := by
  intro K Q hK
  obtain ⟨hw, hc⟩ := guardOf_ok hs.t hg
  rw [hw]
  simp only [condB, List.all_nil, if_true]
  unfold opAppX at h
  split at h
  · rename_i args argTypes ho
    split at h
    · rename_i sx x tt tt' hargs hats
      split at h
      · rename_i el sv ex u hu hsv hx
        split at h
        · rename_i ie u' hie hu'
          split at h
          · rename_i hcnd
            obtain ⟨rfl, rfl, hwid, hpos, hscal, hzero, hbyt⟩ := hcnd
            obtain ⟨y1, y2, y3⟩ := getD_ok hs.t (pc := []) rfl hx
            obtain ⟨l2, hl2, hl2m, hall2⟩ := has_list.1 y3
            have hk2 : ∀ d ∈ l2, d.cells.length = u.cells.length := fun d hd => (has_cells (hall2 d hd)).1
            obtain ⟨A, c, news, hxv, hA, hnl, hnc, hnr⟩ := (hl2 ▸ y2).source hk2
            obtain ⟨z, hz, hzs⟩ : ∃ z, ie.zero = some z ∧ z.cells.size = ie.size := by
              cases hq : ie.zero with
              | none => simp [hq] at hzero
              | some z => exact ⟨z, rfl, by simpa [hq] using hzero⟩
            -- all that is asked of the slice that is appended to
            have main : ∀ (v : Value) (e1' : E) (g' : Option Tag), a.eval sx = v → e1'.lt C.N = true → (∃ l1 xs, den C.ρ e1' = .list l1 ∧ (∀ d ∈ l1, Has u d) ∧ w.ownsRow 0 el u.cells.length v l1.length xs ∧
                (∀ (i : Nat) d (j : Nat) u' c, l1[i]? = some d → d.cells[j]? = some c → xs[i * u.cells.length + j]? = some u' → Rep w G.S u' c) ∧
                (v = .slice none 0 0 ∧ g' = none ∨ ∃ g x, g' = some g ∧ σ.live g = some x ∧ G.τ g = v ∧ ∀ b, v.ownBlock = some b → (∀ o, G.S b o ↔ Tag.ex (p, 1000) = false ∧ o < xs.length))) →
                ItemOk C Φ Pre (.room [] (.bin .cat e1' ex) ie.bytes) →
                (∀ a' w' G', Sim n w0 S0 (C.add p) G' ((⟨o.dst, ([], .one (.xo (p, 1000) u)), [], (match g' with | some g => [(g, none)] | none => []) ++ [((p, 1000), some (.bin .cat e1' ex, el, u))], [], items⟩ : Eff).app σ) a' w' → K a' w') →
                o.wp P a w K Q := by
              rintro v e1' g' hv he1 ⟨l1, xs, hl1, hall1, hown, hxr, hold⟩ hroom hK
              have hden : den C.ρ (.bin .cat e1' ex) = .list (l1 ++ l2) := by simp only [den, B.den, hl1, hl2, D.toL]
              obtain ⟨hr0, hr1⟩ := hroom
              have hr2 := hr1 rfl
              rw [hden] at hr2
              simp only [D.toL, List.length_append] at hr2
              have hone : ∀ w ∈ news, w.oneCell' = true := by
                intro uu huu
                obtain ⟨q, hq⟩ := List.getElem?_of_mem huu
                have hql : q < news.length := (List.getElem?_eq_some_iff.1 hq).1
                have hwp : 0 < u.cells.length := by omega
                have hi : q / u.cells.length < l2.length := by rw [Nat.div_lt_iff_lt_mul hwp, ← hnl]; exact hql
                have hj : q % u.cells.length < u.cells.length := Nat.mod_lt _ hwp
                have hd : l2[q / u.cells.length]? = some (l2[q / u.cells.length]'hi) := List.getElem?_eq_getElem hi
                have hty : u.cells[q % u.cells.length]? = some (u.cells[q % u.cells.length]'hj) := List.getElem?_eq_getElem hj
                obtain ⟨cc, hcc, hcc2⟩ := (has_cells (hall2 _ (List.mem_of_getElem? hd))).2 _ _ hty
                have hqq : q / u.cells.length * u.cells.length + q % u.cells.length = q := by rw [Nat.mul_comm]; exact Nat.div_add_mod _ _
                exact (hnr _ _ _ uu cc hd hcc (by rw [hqq]; exact hq)).oneCell hcc2 (List.all_eq_true.1 hscal _ (List.getElem_mem hj))
              obtain ⟨v', w', hrun, hown', hcase⟩ := run_append_cases (P := P) w 0 tt o.type el ie z u.cells.length hu hie hz hwid.symm (by rw [hzs, hwid]) v l1.length xs hown A l2.length c news hA hnl hnc hone hr2.1 hr2.2 (Nat.zero_le _)
              have hexec : (execOp a.eval o).run P w = .ok (.value v') w' := by
                have ha1 : args = #[sx, x] := by apply Array.ext'; simpa using hargs
                have ha2 : argTypes = #[tt, tt] := by apply Array.ext'; simpa using hats
                unfold execOp; simp only [ho, resolve, invoke, builtin, ha1, ha2]
                simp [hv, hxv, hrun]
              unfold Oper.wp
              rw [hexec]
              have hgp : ∀ g, g' = some g → g ≠ (p, 1000) := by
                intro g hgg he
                rcases hold with ⟨_, h2⟩ | ⟨g0, x0, h2, h3, _⟩
                · rw [h2] at hgg; cases hgg
                · rw [h2] at hgg; injection hgg with hgg; subst hgg; subst he
                  exact not_M_live hs.m hp h3 rfl
              obtain ⟨G', hlat, hm, hτ⟩ := hs.m.appended hp 1000 (v := v) (v' := v') (T := el) (t := u) (n := l1.length) (m := l2.length) (xs := xs) (news := news) (l := l1) (l2 := l2) (e2 := .bin .cat e1' ex)
                (by omega) rfl rfl hxr hnr (fun d hd => (has_cells (hall1 d hd)).1) hown.1 hown' hcase (updL σ.live ((match g' with | some g => [(g, none)] | none => []) ++ [((p, 1000), some (.bin .cat e1' ex, el, u))]))
                (by
                  rcases hold with ⟨h1, _⟩ | ⟨g0, x0, h2, h3, h4, h5⟩
                  · exact .inl h1
                  · refine .inr ⟨g0, x0, h3, h4, ?_, fun b hb => ⟨h5 b hb, fun o' u' ho' => ?_⟩⟩
                    · rw [h2]; simp [updL, lk]
                    · have := hown.cells (g := b) hb o' u' ho'
                      rw [addr_add, Nat.zero_add] at this; exact this)
                (by simp [E.lt, he1, y1]) hden (by rw [hden]; exact has_list.2 ⟨_, rfl, ⟨by simpa using hr2.1, by rw [← hbyt]; simpa using hr2.2⟩, fun d hd => by rcases List.mem_append.1 hd with h | h; exact hall1 d h; exact hall2 d h⟩)
                (by
                  intro g0 x0 hx0
                  unfold updL at hx0
                  cases g' with
                  | none =>
                    simp only [List.nil_append, lk] at hx0
                    by_cases he : g0 = (p, 1000)
                    · rw [if_pos he] at hx0; simp only [Option.some.injEq] at hx0; exact .inr ⟨he, hx0.symm⟩
                    · rw [if_neg he] at hx0; exact .inl ⟨he, hx0⟩
                  | some g1 =>
                    simp only [List.cons_append, List.nil_append, lk] at hx0
                    by_cases he1 : g0 = g1
                    · rw [if_pos he1] at hx0; cases hx0
                    · rw [if_neg he1] at hx0
                      by_cases he : g0 = (p, 1000)
                      · rw [if_pos he] at hx0; simp only [Option.some.injEq] at hx0; exact .inr ⟨he, hx0.symm⟩
                      · rw [if_neg he] at hx0; exact .inl ⟨he, hx0⟩)
                (fun hff => absurd hff hnf) hnw
              have hown2 := hm.own (p, 1000) (.bin .cat e1' ex) el u (by
                show updL σ.live _ (p, 1000) = _
                unfold updL
                cases g' with
                | none => simp [lk]
                | some g1 => simp [lk, Ne.symm (hgp g1 rfl)])
              exact hK _ _ _ (hs.step (o := o) (e := ⟨o.dst, ([], .one (.xo (p, 1000) u)), [], (match g' with | some g => [(g, none)] | none => []) ++ [((p, 1000), some (.bin .cat e1' ex, el, u))], [], items⟩) hlat (hm.congr (updL_nil _) rfl) rfl
                (rfl) (by simp)
                (by
                  intro _
                  simp only [condB, List.all_nil, if_true]
                  refine ⟨.inr rfl, hτ.symm, ?_⟩
                  rcases hown'.2 with ⟨hv, _⟩ | ⟨b, cap, cur, hv, _⟩
                  · exact ⟨_, _, _, hv⟩
                  · exact ⟨_, _, _, hv⟩) hdst)
            split at h
            · rename_i v
              split at h
              · rename_i hvu
                injection h with h; simp only [Prod.mk.injEq] at h; obtain ⟨rfl, rfl, rfl, rfl, rfl, rfl⟩ := h
                have hv := getV_ok hs.t (pc := []) rfl hsv
                refine main (.slice none 0 0) .nil none hv rfl ⟨[], [], rfl, by simp, World.ownsRow_nil w _ _ _, by simp, .inl ⟨rfl, rfl⟩⟩ hit hK
              · cases h
            · rename_i g0 v
              split at h
              · rename_i e1' T' hlx
                split at h
                · rename_i hcnd2
                  obtain ⟨rfl, rfl⟩ := hcnd2
                  obtain ⟨hlive, hge, _⟩ := liveX_ok hlx
                  injection h with h; simp only [Prod.mk.injEq] at h; obtain ⟨rfl, rfl, rfl, rfl, rfl, rfl⟩ := h
                  have hv := getV_ok hs.t (pc := []) rfl hsv
                  have hok := hs.m.own _ _ _ _ hlive
                  obtain ⟨xs, l1, hl1, hown, hfoot, hr⟩ := hok.own
                  have hh := hok.has
                  rw [hl1] at hh
                  obtain ⟨l1', hl1', _, hall1⟩ := has_list.1 hh
                  injection hl1' with hl1'; subst hl1'
                  exact main (G.τ g0) e1' (some g0) hv.2.1 hok.lt ⟨l1, xs, hl1, hall1, hown, hr, .inr ⟨g0, _, rfl, hlive, rfl, fun b hb o => (hfoot b hb o).trans (by rw [hge]; rfl)⟩⟩ hit hK
                · cases h
              · cases h
            · cases h
          · cases h
        · cases h
      · cases h
    · cases h
  · cases h


/-- An owned slice's reading, where its cells may be leaned on. -/
theorem OwnOk.repX {base : Nat} {g : Tag} {e : E} {T : TypeId} {t : Ty} (h : OwnOk C w base G g e T t) (hsz : 0 < t.cells.length) {S' : Foot} (hS0 : ∀ b o, G.S b o → S' b o) (hS' : ∀ b o, (G.τ g).ownBlock = some b → S' b o) : Rep w S' (G.τ g) (den C.ρ e) := by
  obtain ⟨xs, l, hd, hown, hS, hr⟩ := h.own
  rw [hd]
  obtain ⟨hl, hh⟩ := hown
  rcases hh with ⟨hv, hn⟩ | ⟨b, cap, cur, hv, hb, hg, hnc, hcm, hcs, htake⟩
  · have : l = [] := List.eq_nil_of_length_eq_zero hn
    subst this
    rw [hv]; exact .nil none 0
  · have hhas := h.has
    rw [hd] at hhas
    obtain ⟨l', hl', _, hx⟩ := has_list.1 hhas
    injection hl' with hl'; subst hl'
    by_cases hne : l = []
    · subst hne; rw [hv]; exact .nil _ cap
    · rw [hv]
      refine .list b 0 cap t.cells.length xs l hsz hne hnc hl (fun i hi => ?_) (fun i v hi => ?_) (fun i d hd' => ?_) (fun i d j v c h1 h2 h3 => (hr i d j v c h1 h2 h3).keep hS0 (fun _ _ _ => rfl))
      · exact hS' b _ (by rw [hv]; rfl)
      · rw [Nat.zero_add, cell_of_row w b i cur T (0, 0) hg]
        rw [← htake, List.getElem?_take] at hi
        split at hi
        · simpa using hi
        · cases hi
      · exact (has_cells (hx d (List.mem_of_getElem? hd'))).1

/-- All that readings may lean on, and all owned slices. -/
def footX (G : Gh) (σ : St) : Foot := fun b o => G.S b o ∨ ∃ g x, σ.live g = some x ∧ (G.τ g).ownBlock = some b

theorem asDataX_ok (hm : SimM w0 S0 C G σ w) {c : SC} {e : E} {t : Ty} {l : List (Tag × Option (E × TypeId × Ty))} {v : Value} (h : asDataX σ c = some ((e, t), l)) (hr : RSC C w G c v) :
    (e.lt C.N = true ∧ Rep w (footX G σ) v (den C.ρ e) ∧ Has t (den C.ρ e)) ∧ ∀ y ∈ l, σ.live y.1 = y.2 ∧ y.2.isSome = true := by
  have plain : (asData c).map (fun x => (x, ([] : List (Tag × Option (E × TypeId × Ty))))) = some ((e, t), l) → (e.lt C.N = true ∧ Rep w (footX G σ) v (den C.ρ e) ∧ Has t (den C.ρ e)) ∧ ∀ y ∈ l, σ.live y.1 = y.2 ∧ y.2.isSome = true := by
    intro h
    simp only [Option.map_eq_some_iff, Prod.mk.injEq] at h
    obtain ⟨x, hx, rfl, rfl⟩ := h
    obtain ⟨h1, h2, h3⟩ := asData_ok hx hr
    exact ⟨⟨h1, h2.keep (fun _ _ h => .inl h) (fun _ _ _ => rfl), h3⟩, by simp⟩
  cases c with
  | xo g t' =>
    simp only [asDataX] at h
    split at h
    · rename_i e' T hlx
      injection h with h; simp only [Prod.mk.injEq] at h; obtain ⟨⟨rfl, rfl⟩, rfl⟩ := h
      obtain ⟨hl, _, hpos⟩ := liveX_ok hlx
      have hok := hm.own _ _ _ _ hl
      refine ⟨⟨hok.lt, ?_, hok.has⟩, ?_⟩
      · rw [hr.2.1]
        exact hok.repX hpos (fun _ _ h => .inl h) (fun b o hb => .inr ⟨g, _, hl, hb⟩)
      · intro y hy
        simp only [List.mem_singleton] at hy; subst hy
        exact ⟨hl, rfl⟩
    · cases h
  | _ => exact plain h

theorem asDatasX_ok (hm : SimM w0 S0 C G σ w) : ∀ {cl : List SC} {es : List E} {ts : List Ty} {l : List (Tag × Option (E × TypeId × Ty))} {vs : List Value}, asDatasX σ cl = some ((es, ts), l) → RSCs C w G cl vs →
    ((E.ofL es).lt C.N = true ∧ es.length = vs.length ∧ (∀ (i : Nat) v e, vs[i]? = some v → es[i]? = some e → Rep w (footX G σ) v (den C.ρ e)) ∧ HasL (.ofL ts) (es.map (den C.ρ))) ∧ ∀ y ∈ l, σ.live y.1 = y.2 ∧ y.2.isSome = true
  | [], es, ts, l, vs, h, hr => by
    simp only [asDatasX, Option.some.injEq, Prod.mk.injEq] at h
    obtain ⟨⟨rfl, rfl⟩, rfl⟩ := h
    have hv : vs = [] := List.eq_nil_of_length_eq_zero hr.1
    subst hv
    exact ⟨⟨rfl, rfl, by intro i v e hi; simp at hi, has_nil.2 rfl⟩, by simp⟩
  | c :: cl, es, ts, l, vs, h, hr => by
    simp only [asDatasX] at h
    split at h
    · rename_i e t l1 es' ts' ls h1 h2
      injection h with h; simp only [Prod.mk.injEq] at h; obtain ⟨⟨rfl, rfl⟩, rfl⟩ := h
      cases vs with
      | nil => have := hr.1; simp at this
      | cons v vs =>
        have hr' : RSCs C w G cl vs := ⟨by simpa using hr.1, fun i c v hi hv => hr.2 (i + 1) c v (by simpa using hi) (by simpa using hv)⟩
        obtain ⟨⟨k1, k2, k4, k5⟩, k6⟩ := asDatasX_ok hm h2 hr'
        obtain ⟨⟨m1, m2, m3⟩, m6⟩ := asDataX_ok hm h1 (hr.2 0 c v rfl rfl)
        refine ⟨⟨by simp [E.ofL, E.lt, m1, k1], by simp [k2], ?_, has_cons.2 ⟨_, _, rfl, m3, k5⟩⟩, fun y hy => ?_⟩
        · intro i u e' hi he
          cases i with
          | zero => simp at hi he; subst hi; subst he; exact m2
          | succ i => exact k4 i u e' (by simpa using hi) (by simpa using he)
        · rcases List.mem_append.1 hy with hy | hy
          · exact m6 y hy
          · exact k6 y hy
    · cases h

theorem asDataVX_ok (hm : SimM w0 S0 C G σ w) {s : SV} {e : E} {t : Ty} {l : List (Tag × Option (E × TypeId × Ty))} {v : Value} (h : asDataVX σ s = some ((e, t), l)) (hr : RSV C w G s v) :
    (e.lt C.N = true ∧ Rep w (footX G σ) v (den C.ρ e) ∧ Has t (den C.ρ e)) ∧ ∀ y ∈ l, σ.live y.1 = y.2 ∧ y.2.isSome = true := by
  cases s with
  | one c => exact asDataX_ok hm h hr
  | agg cl =>
    simp only [asDataVX] at h
    split at h
    · rename_i es ts ls h1
      injection h with h; simp only [Prod.mk.injEq] at h; obtain ⟨⟨rfl, rfl⟩, rfl⟩ := h
      obtain ⟨vs, rfl, hs⟩ := hr
      obtain ⟨⟨k1, k2, k4, k5⟩, k6⟩ := asDatasX_ok hm h1 hs
      refine ⟨⟨by simpa [E.lt] using k1, ?_, ?_⟩, k6⟩
      · simp only [den, den_ofL, U.den, D.toL]
        refine .agg vs _ (by simp [k2]) fun i v d hi hd => ?_
        simp only [List.getElem?_map, Option.map_eq_some_iff] at hd
        obtain ⟨e, he, rfl⟩ := hd
        exact k4 i v e hi he
      · simp only [den, den_ofL, U.den, D.toL]
        exact has_agg.2 ⟨_, rfl, k5⟩
    · cases h
  | tup l => cases h

theorem argsX_ok (hm : SimM w0 S0 C G σ w) (ht : SimT C w G σ.tm a) {pc : Cond} (hpc : condB C.ρ pc = true) : ∀ {xs : List Operand} {tys : List TypeId} {es : List (E × Ty)} {l : List (Tag × Option (E × TypeId × Ty))}, argsX P σ pc xs tys = some (es, l) →
    (es.length = xs.length ∧ ∀ (i : Nat) x e, xs[i]? = some x → es[i]? = some e → e.1.lt C.N = true ∧ Rep w (footX G σ) (a.eval x) (den C.ρ e.1) ∧ Has e.2 (den C.ρ e.1)) ∧ ∀ y ∈ l, σ.live y.1 = y.2 ∧ y.2.isSome = true
  | [], [], es, l, h => by
    simp only [argsX, Option.some.injEq, Prod.mk.injEq] at h
    obtain ⟨rfl, rfl⟩ := h
    exact ⟨⟨rfl, by intro i x e hi; simp at hi⟩, by simp⟩
  | x :: xs, t :: ts, es, l, h => by
    simp only [argsX] at h
    split at h
    · rename_i e l1 es' ls h1 h2
      injection h with h; simp only [Prod.mk.injEq] at h; obtain ⟨rfl, rfl⟩ := h
      obtain ⟨⟨k1, k2⟩, k3⟩ := argsX_ok hm ht hpc h2
      rw [Option.bind_eq_some_iff] at h1
      obtain ⟨sv, hsv, h1⟩ := h1
      obtain ⟨m1, m2⟩ := asDataVX_ok hm (e := e.1) (t := e.2) h1 (getV_ok ht hpc hsv)
      refine ⟨⟨by simp [k1], fun i x' e' hi he => ?_⟩, fun y hy => ?_⟩
      · cases i with
        | zero => simp at hi he; subst hi; subst he; exact m1
        | succ i => exact k2 i x' e' (by simpa using hi) (by simpa using he)
      · rcases List.mem_append.1 hy with hy | hy
        · exact m2 y hy
        · exact k3 y hy
    · cases h
  | [], _ :: _, _, _, h => by cases h
  | _ :: _, [], _, _, h => by cases h

theorem Rep.bare {S S' : Foot} {v : Value} {d : D} {t : Ty} (h : Rep w S v d) (ht : Has t d) (hb : t.bare = true) : Rep w S' v d := by
  cases t <;> first | (cases hb; done) | skip
  · obtain ⟨n, rfl, _⟩ := has_int.1 ht; rw [h.inv_int]; exact .int _ _
  · obtain ⟨n, rfl⟩ := has_bool.1 ht; rw [h.inv_bool]; exact .bool _
  · obtain ⟨n, rfl⟩ := has_str.1 ht; rw [h.inv_str]; exact .str _

theorem CellOk.bare {w' : World} {S S' : Foot} {τ : Nat → Value} {c : RCell} {v : Value} {d : D} (h : CellOk w' 0 S τ c v d) (hb : c.bare = true) (hS : ∀ j T, c.2 = some (j, T) → ∀ b, (τ j).ownBlock = some b → ∀ o, S' b o ↔ S b o) : CellOk w' 0 S' τ c v d := by
  obtain ⟨t, _ | ⟨j, T⟩⟩ := c
  · exact ⟨h.1.bare h.2 hb, h.2⟩
  · obtain ⟨rfl, ⟨h1, h2, xs, l, h3, h4, h5, h6⟩⟩ := h
    refine ⟨rfl, h1, h2, xs, l, h3, h4, fun b hbb o => (hS j T rfl b hbb o).trans (h5 b hbb o), fun i d j' v c hi hj hv => ?_⟩
    rw [h3] at h1
    obtain ⟨l', hl', _, hall⟩ := has_list.1 h1
    injection hl' with hl'; subst hl'
    obtain ⟨q1, q2⟩ := has_cells (hall d (List.mem_of_getElem? hi))
    have hjl : j' < t.cells.length := by rw [← q1]; exact (List.getElem?_eq_some_iff.1 hj).1
    obtain ⟨c', hc', hcc⟩ := q2 j' _ (List.getElem?_eq_getElem hjl)
    rw [hj] at hc'; injection hc' with hc'; subst hc'
    exact (h6 i d j' v c hi hj hv).bare hcc (List.all_eq_true.1 hb _ (List.getElem_mem hjl))

theorem ResOk.bare {w' : World} {S S' : Foot} {τ : Nat → Value} {res : List (Bool × List RCell)} {v : Value} {d : D} (h : ResOk w' 0 S τ res v d) (hb : (res.all fun c => c.2.all RCell.bare) = true)
    (hS : ∀ j b, j ∈ ownIdx res → (τ j).ownBlock = some b → ∀ o, S' b o ↔ S b o) : ResOk w' 0 S' τ res v d := by
  have hidx : ∀ c ∈ res, ∀ y ∈ c.2, ∀ j T, y.2 = some (j, T) → j ∈ ownIdx res := by
    intro c hc y hy j T hj
    unfold ownIdx
    exact List.mem_flatMap.2 ⟨c, hc, List.mem_filterMap.2 ⟨y, hy, by rw [hj]; rfl⟩⟩
  have comp : ∀ c ∈ res, ∀ v d, CompOk w' 0 S τ c v d → CompOk w' 0 S' τ c v d := by
    intro c hc v d h
    have hbc := List.all_eq_true.1 hb c hc
    unfold CompOk at h ⊢
    split
    · rename_i hc1
      rw [if_pos hc1] at h
      obtain ⟨vs, ds, h1, h2, h3, h4, h5⟩ := h
      refine ⟨vs, ds, h1, h2, h3, h4, fun i x u y hx hu hy => ?_⟩
      have hxm := List.mem_of_getElem? hx
      exact (h5 i x u y hx hu hy).bare (List.all_eq_true.1 hbc x hxm) (fun j T hj b hb' o => hS j b (hidx c hc x hxm j T hj) hb' o)
    · rename_i hc1
      rw [if_neg hc1] at h
      obtain ⟨x, hx, h5⟩ := h
      have hxm : x ∈ c.2 := by rw [hx]; simp
      exact ⟨x, hx, h5.bare (List.all_eq_true.1 hbc x hxm) (fun j T hj b hb' o => hS j b (hidx c hc x hxm j T hj) hb' o)⟩
  rcases h with ⟨c, rfl, h⟩ | ⟨hne, vs, ds, h1, h2, h3, h4, h5⟩
  · exact .inl ⟨c, rfl, comp c (by simp) v d h⟩
  · exact .inr ⟨hne, vs, ds, h1, h2, h3, h4, fun i x u y hx hu hy => comp x (List.mem_of_getElem? hx) u y (h5 i x u y hx hu hy)⟩

theorem lk_append {α β : Type} [DecidableEq α] : ∀ (l r : List (α × β)) (x : α), lk (l ++ r) x = match lk l x with | some v => some v | none => lk r x
  | [], r, x => rfl
  | (k, v) :: l, r, x => by
    simp only [List.cons_append, lk]
    split
    · rfl
    · exact lk_append l r x
theorem updL_marks {l r : List (Tag × Option (E × TypeId × Ty))} (hl : ∀ y ∈ l, σ.live y.1 = y.2) (hp : ∀ y ∈ l, ∀ z ∈ r, y.1 ≠ z.1) : updL σ.live (l ++ r) = updL σ.live r := by
  funext g
  unfold updL
  rw [lk_append]
  cases h : lk l g with
  | none => rfl
  | some v =>
    have hm := lk_mem h
    have hn : lk r g = none := by
      cases hr : lk r g with
      | none => rfl
      | some u => exact absurd (show ((g, v) : Tag × Option (E × TypeId × Ty)).1 = ((g, u) : Tag × Option (E × TypeId × Ty)).1 from rfl) (hp (g, v) hm (g, u) (lk_mem hr))
    rw [hn]
    exact (hl _ hm).symm

theorem stepped_xCall {ops : Array Oper} {e : Eff} (hs : Sim n w0 S0 C G σ a w) (hp : ¬ C.M p) (hpN : p < C.N) (hg : guardOf ops σ o = some []) (h : xCall P cs σ p o = some e)
    (hcon : ∀ k sig, lk cs.l k = some sig → PureFn P k sig (Pre k) (Φ k)) (hit : ∀ it ∈ e.items, ItemOk C Φ Pre it) (hlt : e.ent.2.lt C.N = true) (hdst : ∀ d, o.dst = some d → d < n) (hnf : ¬ S0.fr) (hnw : ¬ S0.wz) :
    Stepped1 P n w0 S0 C (e.app σ) p ops a w o := by
  unfold xCall at h
  split at h
  · rename_i f args argTypes ho
    split at h
    · rename_i fe k es l hf hes
      split at h
      · rename_i sig hsig
        split at h
        · rename_i hcnd
          obtain ⟨hob, hty, hnd, hshape, hbare⟩ := hcnd
          injection h with h; subst h
          intro K Q hK
          obtain ⟨hw, hc⟩ := guardOf_ok hs.t hg
          rw [hw, if_pos (show condB C.ρ [] = true from rfl)]
          obtain ⟨f1, f2, f3⟩ := getV_ok hs.t (pc := []) rfl hf
          obtain ⟨fl, hfl, hfh⟩ := has_fn.1 f3
          have hfl0 := has_nil.1 hfh
          subst hfl0
          obtain ⟨cvs, hfv, hclen, hcr⟩ := (hfl ▸ f2).inv_fn
          have hcv0 : cvs = [] := List.eq_nil_of_length_eq_zero (by simpa using hclen)
          subst hcv0
          obtain ⟨⟨k1, k2⟩, hmarks⟩ := argsX_ok hs.m hs.t (pc := []) rfl hes
          have hcontract := hcon _ _ hsig
          have hden : (den C.ρ (.ofL (es.map (·.1)))).toL = es.map fun x => den C.ρ x.1 := by rw [den_ofL]; simp [D.toL]
          have hrun : (execOp a.eval o).run P w = .ok (.enter k (args.toList.map a.eval).toArray) w := by
            have e1 : (args.toList.map a.eval).toArray = args.map a.eval := by apply Array.ext'; simp
            unfold execOp; simp only [ho, resolve, hfv, Deferred.ofValue, e1]
            have := hcontract.enter (args.map a.eval) w
            simpa [invoke] using this
          unfold Oper.wp
          rw [hrun]
          have hfoot : ∀ b o, footX G σ b o → b < w.heap.size := by
            rintro b o (h | ⟨g, x, hl, hb⟩)
            · exact hs.m.footlt b o h
            · exact ((hs.m.own g x.1 x.2.1 x.2.2 hl).lt_heap b hb).2
          have hrepargs : ∀ (i : Nat) v d, (args.toList.map a.eval)[i]? = some v → (es.map fun x => den C.ρ x.1)[i]? = some d → Rep w (footX G σ) v d := by
            intro i v d hv hd
            simp only [List.getElem?_map, Option.map_eq_some_iff] at hv hd
            obtain ⟨x, hx, rfl⟩ := hv
            obtain ⟨y, hy, rfl⟩ := hd
            exact (k2 i x y hx hy).2.1
          have hhas : HasL (.ofL sig.params) (es.map fun x => den C.ρ x.1) := by
            rw [← hty]
            refine hasL_mk (by simp) fun j u x hj hx => ?_
            simp only [List.getElem?_map, Option.map_eq_some_iff] at hj hx
            obtain ⟨y, hy, rfl⟩ := hj
            obtain ⟨y', hy', rfl⟩ := hx
            rw [hy] at hy'; injection hy' with hy'; subst hy'
            have hjl : j < args.toList.length := by rw [← k1]; exact (List.getElem?_eq_some_iff.1 hy).1
            exact (k2 j _ y (List.getElem?_eq_getElem hjl) hy).2.2
          obtain ⟨_, _, hρ, hpre⟩ := hit _ (List.mem_singleton.2 rfl)
          have hpre' := hpre rfl
          rw [hden] at hρ hpre'
          refine (hcontract.calls (by simpa using hob) w (footX G σ) _ _ hfoot (by simp [k1]) hrepargs hhas hpre').mono ?_
          rintro e' w' ⟨v, S', τ', rfl, hbel, hS, hSlt, hSnew, hres, hnewb, hdis, _⟩
          simp only
          rw [← hρ] at hres
          let S1 : Foot := fun b o => G.S b o ∨ (S' b o ∧ w.heap.size ≤ b)
          let G' : Gh := { S := S1, β := G.β, τ := fun g => if g.1 = p then τ' g.2 else G.τ g }
          have hτ : ∀ j, G'.τ (p, j) = τ' j := fun j => if_pos rfl
          have hM : (C.add p).M p := .inr rfl
          have hresC : ResOk w' 0 G'.S τ' sig.res v ((C.add p).ρ p) := ResOk.bare hres hbare fun j b hj hb o => by
            have hge := hnewb j b hj hb
            constructor
            · rintro (h | h)
              · have := hs.m.footlt b o h; omega
              · exact h.1
            · intro h; exact .inr ⟨h, hge⟩
          have hlive := resLive_ok (C := C.add p) (G := G') hresC hM hpN hτ
          have hupd : updL σ.live (l ++ resLive p sig.res) = updL σ.live (resLive p sig.res) := updL_marks (fun y hy => (hmarks y hy).1) (fun y hy z hz he => by
            obtain ⟨h1, h2⟩ := hmarks y hy
            cases hy2 : y.2 with
            | none => rw [hy2] at h2; cases h2
            | some x => rw [hy2] at h1; exact not_M_live hs.m hp h1 (by rw [he]; exact (hlive z hz).1))
          obtain ⟨hlat, hm⟩ := hs.m.called hp (τ' := τ') hbel (fun b o h => .inl h) (S' := S1)
            (by
              rintro b o (h | h)
              · have := hs.m.footlt b o h
                have := hbel.size
                omega
              · exact hSlt b o h.1)
            (by
              rintro b o (h | h)
              · exact .inl h
              · exact .inr h.2) (updL σ.live (resLive p sig.res)) G' rfl
            (by
              intro g x hx
              unfold updL at hx
              split at hx
              · rename_i y hy
                obtain ⟨q1, q2, e1, T1, t1, q3, q4⟩ := hlive _ (lk_mem hy)
                simp only at q1 q3 q4
                rw [q3] at hx; injection hx with hx; subst hx
                refine .inr ⟨q1, q4.rebase (fun b hb => hnewb g.2 b q2 ?_)⟩
                have e : G'.τ g = τ' g.2 := if_pos q1
                rw [← e]; exact hb
              · exact .inl ⟨not_M_live hs.m hp hx, hx⟩)
            (by
              intro j1 j2 x y b hx hy hb1 hb2
              have key : ∀ j x, updL σ.live (resLive p sig.res) (p, j) = some x → j ∈ ownIdx sig.res := by
                intro j x hx
                unfold updL at hx
                split at hx
                · rename_i y hy
                  exact (hlive _ (lk_mem hy)).2.1
                · exact absurd rfl (not_M_live hs.m hp hx)
              exact hdis j1 j2 b (key j1 x hx) (key j2 y hy) hb1 hb2) (fun hff => absurd hff hnf) hnw
          exact hK _ _ _ (hs.step (o := o) (e := ⟨o.dst, ([], resSV true p sig.res), [], l ++ resLive p sig.res, [], [.call p k (.ofL (es.map (·.1))) []]⟩) hlat (hm.congr (updL_nil _) hupd) rfl hlt hc
            (by intro _; simp only [condB, List.all_nil, if_true]; exact resSV_ok (C := C.add p) (G := G') hresC hM hpN hτ _) hdst)
        · cases h
      · cases h
    · cases h
  · cases h
theorem asDataX_marks {c : SC} {x : E × Ty} {l : List (Tag × Option (E × TypeId × Ty))} (h : asDataX σ c = some (x, l)) : ∀ y ∈ l, σ.live y.1 = y.2 := by
  unfold asDataX at h
  split at h
  · split at h
    · rename_i e T hl
      injection h with h; simp only [Prod.mk.injEq] at h; obtain ⟨_, rfl⟩ := h
      unfold liveX at hl
      split at hl
      · rename_i e' T' t' hl'
        split at hl
        · rename_i hc
          injection hl with hl; simp only [Prod.mk.injEq] at hl; obtain ⟨rfl, rfl⟩ := hl
          intro y hy
          rw [List.mem_singleton] at hy; subst hy
          rw [hl', hc.1]
        · cases hl
      · cases hl
    · cases h
  · rw [Option.map_eq_some_iff] at h
    obtain ⟨_, _, h⟩ := h
    simp only [Prod.mk.injEq] at h; obtain ⟨_, rfl⟩ := h
    simp
theorem asDatasX_marks : ∀ {cs : List SC} {x : List E × List Ty} {l : List (Tag × Option (E × TypeId × Ty))}, asDatasX σ cs = some (x, l) → ∀ y ∈ l, σ.live y.1 = y.2
  | [], x, l, h => by simp only [asDatasX, Option.some.injEq, Prod.mk.injEq] at h; obtain ⟨_, rfl⟩ := h; simp
  | c :: r, x, l, h => by
    simp only [asDatasX] at h
    split at h
    · rename_i e t l1 es ts ls h1 h2
      injection h with h; simp only [Prod.mk.injEq] at h; obtain ⟨_, rfl⟩ := h
      intro y hy
      rcases List.mem_append.1 hy with hy | hy
      · exact asDataX_marks h1 y hy
      · exact asDatasX_marks h2 y hy
    · cases h
theorem asDataVX_marks {s : SV} {x : E × Ty} {l : List (Tag × Option (E × TypeId × Ty))} (h : asDataVX σ s = some (x, l)) : ∀ y ∈ l, σ.live y.1 = y.2 := by
  cases s with
  | one c => exact asDataX_marks h
  | agg cl =>
    simp only [asDataVX] at h
    split at h
    · rename_i es ts ls h1
      injection h with h; simp only [Prod.mk.injEq] at h; obtain ⟨_, rfl⟩ := h
      exact asDatasX_marks h1
    · cases h
  | tup l => cases h
theorem argsX_marks {pc : Cond} : ∀ {xs : List Operand} {tys : List TypeId} {es : List (E × Ty)} {l : List (Tag × Option (E × TypeId × Ty))}, argsX P σ pc xs tys = some (es, l) → ∀ y ∈ l, σ.live y.1 = y.2
  | [], [], es, l, h => by simp only [argsX, Option.some.injEq, Prod.mk.injEq] at h; obtain ⟨_, rfl⟩ := h; simp
  | x :: xs, t :: ts, es, l, h => by
    simp only [argsX] at h
    split at h
    · rename_i e l1 es' ls h1 h2
      injection h with h; simp only [Prod.mk.injEq] at h; obtain ⟨_, rfl⟩ := h
      rw [Option.bind_eq_some_iff] at h1
      obtain ⟨sv, _, h1⟩ := h1
      intro y hy
      rcases List.mem_append.1 hy with hy | hy
      · exact asDataVX_marks h1 y hy
      · exact argsX_marks h2 y hy
    · cases h
  | [], _ :: _, _, _, h => by cases h
  | _ :: _, [], _, _, h => by cases h

theorem stepped_xCallG {ops : Array Oper} {pc : Cond} {e : Eff} (hs : Sim n w0 S0 C G σ a w) (hp : ¬ C.M p) (hpN : p < C.N) (hg : guardOf ops σ o = some pc) (h : xCallG P cs σ pc p o = some e)
    (hcon : ∀ k sig, lk cs.l k = some sig → PureFn P k sig (Pre k) (Φ k)) (hit : ∀ it ∈ e.items, ItemOk C Φ Pre it) (hlt : e.ent.2.lt C.N = true) (hdst : ∀ d, o.dst = some d → d < n) (hnf : ¬ S0.fr) (hnw : ¬ S0.wz) :
    Stepped1 P n w0 S0 C (e.app σ) p ops a w o := by
  unfold xCallG at h
  split at h
  · rename_i f args argTypes ho
    split at h
    · rename_i fe k es l hf hes
      split at h
      · rename_i sig hsig
        split at h
        · rename_i hcnd
          obtain ⟨hob, hty, hnd, hnx, hshape, hbare⟩ := hcnd
          injection h with h; subst h
          have hmk : updL σ.live l = σ.live := by
            have := updL_marks (σ := σ) (l := l) (r := []) (argsX_marks hes) (fun _ _ _ hz => by simp at hz)
            rw [List.append_nil] at this
            rw [this]; exact updL_nil _
          intro K Q hK
          obtain ⟨hw, hc⟩ := guardOf_ok hs.t hg
          rw [hw]
          cases hpc : condB C.ρ pc with
          | false =>
            simp only [Bool.false_eq_true, if_false]
            exact hK _ _ _ (hs.step (o := o) (e := ⟨o.dst, (pc, resSV false p sig.res), [], l, [], [.call p k (.ofL (es.map (·.1))) pc]⟩) (Later.addM C w G p) ((hs.m.addM p).congr (updL_nil _) hmk) rfl hlt hc
              (by intro _; simp only [hpc, Bool.false_eq_true, if_false]) hdst)
          | true =>
            simp only [if_true]
            obtain ⟨f1, f2, f3⟩ := getV_ok hs.t (pc := []) rfl hf
            obtain ⟨fl, hfl, hfh⟩ := has_fn.1 f3
            have hfl0 := has_nil.1 hfh
            subst hfl0
            obtain ⟨cvs, hfv, hclen, hcr⟩ := (hfl ▸ f2).inv_fn
            have hcv0 : cvs = [] := List.eq_nil_of_length_eq_zero (by simpa using hclen)
            subst hcv0
            obtain ⟨⟨k1, k2⟩, _⟩ := argsX_ok hs.m hs.t hpc hes
            have hcontract := hcon _ _ hsig
            have hden : (den C.ρ (.ofL (es.map (·.1)))).toL = es.map fun x => den C.ρ x.1 := by rw [den_ofL]; simp [D.toL]
            have hrun : (execOp a.eval o).run P w = .ok (.enter k (args.toList.map a.eval).toArray) w := by
              have e1 : (args.toList.map a.eval).toArray = args.map a.eval := by apply Array.ext'; simp
              unfold execOp; simp only [ho, resolve, hfv, Deferred.ofValue, e1]
              have := hcontract.enter (args.map a.eval) w
              simpa [invoke] using this
            unfold Oper.wp
            rw [hrun]
            have hfoot : ∀ b o, footX G σ b o → b < w.heap.size := by
              rintro b o (h | ⟨g, x, hl, hb⟩)
              · exact hs.m.footlt b o h
              · exact ((hs.m.own g x.1 x.2.1 x.2.2 hl).lt_heap b hb).2
            have hrepargs : ∀ (i : Nat) v d, (args.toList.map a.eval)[i]? = some v → (es.map fun x => den C.ρ x.1)[i]? = some d → Rep w (footX G σ) v d := by
              intro i v d hv hd
              simp only [List.getElem?_map, Option.map_eq_some_iff] at hv hd
              obtain ⟨x, hx, rfl⟩ := hv
              obtain ⟨y, hy, rfl⟩ := hd
              exact (k2 i x y hx hy).2.1
            have hhas : HasL (.ofL sig.params) (es.map fun x => den C.ρ x.1) := by
              rw [← hty]
              refine hasL_mk (by simp) fun j u x hj hx => ?_
              simp only [List.getElem?_map, Option.map_eq_some_iff] at hj hx
              obtain ⟨y, hy, rfl⟩ := hj
              obtain ⟨y', hy', rfl⟩ := hx
              rw [hy] at hy'; injection hy' with hy'; subst hy'
              have hjl : j < args.toList.length := by rw [← k1]; exact (List.getElem?_eq_some_iff.1 hy).1
              exact (k2 j _ y (List.getElem?_eq_getElem hjl) hy).2.2
            obtain ⟨_, _, hρ, hpre⟩ := hit _ (List.mem_singleton.2 rfl)
            have hpre' := hpre hpc
            rw [hden] at hρ hpre'
            refine (hcontract.calls (by simpa using hob) w (footX G σ) _ _ hfoot (by simp [k1]) hrepargs hhas hpre').mono ?_
            rintro e' w' ⟨v, S', τ', rfl, hbel, hS, hSlt, hSnew, hres, hnewb, hdis, _⟩
            simp only
            rw [← hρ] at hres
            let G' : Gh := { S := G.S, β := G.β, τ := fun g => if g.1 = p then τ' g.2 else G.τ g }
            have hτ : ∀ j, G'.τ (p, j) = τ' j := fun j => if_pos rfl
            have hM : (C.add p).M p := .inr rfl
            have hresC : ResOk w' 0 G'.S τ' sig.res v ((C.add p).ρ p) := ResOk.bare hres hbare fun j b hj => by rw [hnd] at hj; simp at hj
            obtain ⟨hlat, hm⟩ := hs.m.called hp (τ' := τ') hbel (fun b o h => h) (S' := G.S)
              (fun b o h => Nat.lt_of_lt_of_le (hs.m.footlt b o h) hbel.size) (fun b o h => .inl h) σ.live G' rfl
              (fun g x hx => .inl ⟨not_M_live hs.m hp hx, hx⟩)
              (fun j1 j2 x y b hx _ _ _ => absurd rfl (not_M_live hs.m hp hx)) (fun hff => absurd hff hnf) hnw
            exact hK _ _ _ (hs.step (o := o) (e := ⟨o.dst, (pc, resSV false p sig.res), [], l, [], [.call p k (.ofL (es.map (·.1))) pc]⟩) hlat (hm.congr (updL_nil _) hmk) rfl hlt hc
              (by intro _; simp only [hpc, if_true]; exact resSV_ok (C := C.add p) (G := G') hresC hM hpN hτ _ (.inr hnx)) hdst)
        · cases h
      · cases h
    · cases h
  · cases h
end
end Go.Eng
/- A call that uses a slice of its own kind, and a map, up. -/
namespace Go.Eng
open Go Go.RowKit

section
variable {P : Program} {C : Cx} {w w0 : World} {S0 : Base} {G : Gh} {σ : St} {a : Act} {o : Oper} {pc : Cond} {Φ : Nat → List D → D} {Pre : Nat → List D → Prop} {n p : Nat} {cs : Tbl}

theorem stepped_eat {ops : Array Oper} {e : Eff} (hs : Sim n w0 S0 C G σ a w) (hp : ¬ C.M p) (hpN : p < C.N) (hg : guardOf ops σ o = some []) (h : eatCall P cs σ p o = some e) (hE : Env1 P cs S0 Φ Pre)
    (hit : ∀ it ∈ e.items, ItemOk C Φ Pre it) (hdst : ∀ d, o.dst = some d → d < n) (hnf : ¬ S0.fr) (hnw : ¬ S0.wz) : Stepped1 P n w0 S0 C (e.app σ) p ops a w o := by
  unfold eatCall at h
  split at h
  · rename_i k args argTypes ho
    split at h
    · rename_i sg hsg
      split at h
      · rename_i es xo xm hes hdrop
        split at h
        · rename_i g t id hgo hgm
          split at h
          · rename_i ex T hcs hlx hid
            split at h
            · rename_i em kt TM hmap
              split at h
              · rename_i hcnd
                obtain ⟨hty, rfl, rfl, rfl, rfl⟩ := hcnd
                injection h with h; subst h
                intro K Q hK
                obtain ⟨hw, hc⟩ := guardOf_ok hs.t hg
                rw [hw, if_pos (show condB C.ρ [] = true from rfl)]
                have hF := hE.eat _ _ hsg
                obtain ⟨k1, k2⟩ := argsE_ok hs.t (pc := []) rfl hes
                obtain ⟨hl1, hl2, hl3⟩ := liveX_ok hlx
                obtain ⟨hgM, hvo, _⟩ := getV_ok hs.t (pc := []) rfl hgo
                have hvm := getV_ok hs.t (pc := []) rfl hgm
                obtain ⟨hidM, hvm⟩ := hvm
                have hown := hs.m.own _ _ _ _ hl1
                obtain ⟨hbx, _, hblk, hnS⟩ := hs.m.box _ _ _ hid
                simp only [Bool.false_eq_true, if_false] at hnS
                unfold BlkOk at hblk
                rw [hmap] at hblk
                obtain ⟨m1, m2, m3⟩ := hblk
                rw [hE.prog] at m3
                -- the call
                have hargs : args.toList = args.toList.take sg.ps.length ++ [xo, xm] := by rw [← hdrop, List.take_append_drop]
                have hev : (args.toList.map a.eval).toArray = ((args.toList.take sg.ps.length).map a.eval ++ [G.τ g, .map (some (G.β id))]).toArray := by
                  congr 1
                  conv => lhs; rw [hargs]
                  rw [List.map_append]
                  simp [hvo, hvm]
                have hrun : (execOp a.eval o).run P w = .ok (.enter k ((args.toList.take sg.ps.length).map a.eval ++ [G.τ g, .map (some (G.β id))]).toArray) w := by
                  rw [← hev]
                  have e1 : (args.toList.map a.eval).toArray = args.map a.eval := by apply Array.ext'; simp
                  rw [e1]
                  unfold execOp
                  have := hF.enter (args.map a.eval) w
                  simpa [ho, resolve, Act.eval, Deferred.ofValue, invoke] using this
                unfold Oper.wp
                rw [hrun]
                have hhas : HasL (.ofL sg.ps) (es.map fun y => den C.ρ y.1) := by
                  rw [← hty]
                  refine hasL_mk (by simp) fun j u z hj hz => ?_
                  simp only [List.getElem?_map, Option.map_eq_some_iff] at hj hz
                  obtain ⟨z1, hz1, rfl⟩ := hj
                  obtain ⟨z2, hz2, rfl⟩ := hz
                  rw [hz1] at hz2; injection hz2 with hz2; subst hz2
                  have hjl : j < (args.toList.take sg.ps.length).length := by rw [← k1]; exact (List.getElem?_eq_some_iff.1 hz1).1
                  exact (k2 j _ z1 (List.getElem?_eq_getElem hjl) hz1).2
                have hOD : OwnD true w 0 G.S sg.T sg.t (G.τ g) (den C.ρ ex) := by
                  obtain ⟨xs, l, q1, q2, q3, q4⟩ := hown.own
                  exact ⟨hown.has, hl3, xs, l, q1, q2, by rw [← hl2]; exact q3, q4⟩
                obtain ⟨it1, _, it3, it4⟩ := hit (.call p k (.ofL (es.map (·.1) ++ [ex, em])) []) (by simp)
                have hargD : (den C.ρ (.ofL (es.map (·.1) ++ [ex, em]))).toL = (es.map fun y => den C.ρ y.1) ++ [den C.ρ ex, den C.ρ em] := by
                  rw [den_ofL]
                  simp only [D.toL, List.map_append, List.map_map, List.map_cons, List.map_nil]
                  rfl
                rw [hargD] at it3 it4
                have hcall := hF.calls w G.S ((args.toList.take sg.ps.length).map a.eval) (es.map fun y => den C.ρ y.1) (G.τ g) (den C.ρ ex) (G.β id) (den C.ρ em) hs.m.footlt (by rw [List.length_map, List.length_map, k1])
                  (fun i v d hv hd => by
                    simp only [List.getElem?_map, Option.map_eq_some_iff] at hv hd
                    obtain ⟨z, hz, rfl⟩ := hv
                    obtain ⟨z', hz', rfl⟩ := hd
                    exact (k2 i z z' hz hz').1) hhas hOD m2 m3 hnS (it4 rfl)
                refine hcall.mono ?_
                rintro e' w' ⟨v, S', rfl, hbel, hS, hlt', hnew, hkeep, hOv, hov⟩
                have hidp : id ≠ p := fun e => hp (e ▸ hidM)
                have hgp : g.1 ≠ p := fun e => hp (e ▸ hgM)
                obtain ⟨hlat, hm⟩ := hs.m.ocalled hp (w' := w') (S' := S') (τ' := fun _ => v) (βn := 0) (ids := [id]) (kill := [g]) (mu := fun b => (G.τ g).ownBlock = some b ∨ b = G.β id) hbel
                  (fun b hb => hb.elim (fun h => .inr ⟨g, by simp, h⟩) (fun h => .inl ⟨id, by simp, h⟩)) (fun i hi => by simp only [List.mem_singleton] at hi; subst hi; exact ⟨_, hid⟩)
                  (fun g' hg' => by simp only [List.mem_singleton] at hg'; subst hg'; exact ⟨_, hl1⟩) hS hlt' hnew hkeep
                  (updL σ.hp [(id, none)]) (updL σ.live [(g, none), ((p, 1000), some (.var p, sg.T, sg.t))]) _ rfl
                  (by
                    intro i x hx
                    rw [updL_one] at hx
                    by_cases hi : i = id
                    · subst hi; rw [upd_same] at hx; cases hx
                    · rw [upd_ne _ _ hi] at hx
                      exact .inl ⟨by simpa using hi, fun e => hp (e ▸ hs.m.boxM i x hx), hx⟩)
                  (by
                    intro g' x hx
                    simp only [updL_cons, updL_nil] at hx
                    split at hx
                    · cases hx
                    · rename_i hne
                      split at hx
                      · rename_i he
                        subst he
                        injection hx with hx; subst hx
                        refine .inr ⟨rfl, ?_, fun b hb => hov b hb⟩
                        have hd : den C.ρ (.var p) = Φ k ((es.map fun y => den C.ρ y.1) ++ [den C.ρ ex, den C.ρ em]) := it3
                        exact hOv.ok (C := C.add p) (G := { S := S', β := upd G.β p 0, τ := fun g' => if g'.1 = p then v else G.τ g' }) (g := (p, 1000)) (.inr rfl) (by show decide (p < C.N) = true; exact decide_eq_true hpN) hd rfl (by simp)
                      · rename_i hne2
                        refine .inl ⟨fun e => ?_, by simpa using hne, hx⟩
                        have := (hs.m.own g' x.1 x.2.1 x.2.2 hx).m
                        exact hp (e ▸ this))
                  (by
                    intro j k' x y b hx hy _ _
                    simp only [updL_cons, updL_nil] at hx hy
                    have nolive : ∀ q x, σ.live (p, q) = some x → False := fun q x hx => hp (hs.m.own _ x.1 x.2.1 x.2.2 hx).m
                    have hne : ∀ q, (p, q) ≠ g := fun q e => hgp (by rw [← e])
                    rw [if_neg (hne j)] at hx
                    rw [if_neg (hne k')] at hy
                    split at hx
                    · rename_i hj
                      split at hy
                      · rename_i hk
                        rw [Prod.mk.injEq] at hj hk
                        rw [hj.2, hk.2]
                      · exact (nolive _ _ hy).elim
                    · exact (nolive _ _ hx).elim)
                  (by
                    intro j id' x y b _ hy hid' _
                    rw [updL_one] at hy
                    rcases hid' with hid' | hid'
                    · simp only [List.mem_singleton] at hid'
                      subst hid'
                      rw [upd_same] at hy; cases hy
                    · subst hid'
                      rw [upd_ne _ _ (Ne.symm hidp)] at hy
                      exact absurd (hs.m.boxM _ y hy) hp) hnf hnw
                have hres : RSC (C.add p) w' { S := S', β := upd G.β p 0, τ := fun g' => if g'.1 = p then v else G.τ g' } (.xo (p, 1000) sg.t) v := by
                  refine ⟨.inr rfl, by simp, ?_⟩
                  obtain ⟨xs, l, q1, q2, q3, q4⟩ := hOv.own
                  rcases q2.2 with ⟨hv, _⟩ | ⟨b, cap, cur, hv, _⟩
                  · rw [hv]; exact ⟨_, _, _, rfl⟩
                  · rw [hv]; exact ⟨_, _, _, rfl⟩
                exact hK _ _ _ (hs.step (o := o) (e := ⟨o.dst, ([], .one (.xo (p, 1000) sg.t)), [(id, none)], [(g, none), ((p, 1000), some (.var p, sg.T, sg.t))], [id], _⟩) hlat (hm.congr rfl rfl) rfl rfl (by simp)
                  (by intro _; simp only [condB, List.all_nil, if_true]; exact hres) hdst)
              · cases h
            · cases h
          · cases h
        · cases h
      · cases h
    · cases h
  · cases h
end
end Go.Eng
/- Slice literals; every operation together. -/
namespace Go.Eng
open Go Go.RowKit

theorem rep_flat_get {α : Type} (l : List α) : ∀ (n i j : Nat), i < n → j < l.length → (List.replicate n l).flatten[i * l.length + j]? = l[j]?
  | 0, i, j, h, _ => by omega
  | n + 1, 0, j, _, hj => by simp only [List.replicate_succ, List.flatten_cons, Nat.zero_mul, Nat.zero_add]; rw [List.getElem?_append_left hj]
  | n + 1, i + 1, j, h, hj => by
    simp only [List.replicate_succ, List.flatten_cons]
    rw [List.getElem?_append_right (by rw [Nat.add_mul]; omega)]
    have := rep_flat_get l n i j (by omega) hj
    rw [← this]
    congr 1
    rw [Nat.add_mul]; omega

theorem elemsE_len (agg : Bool) (size : Nat) : ∀ (n : Nat) (es : List E), (elemsE agg size es n).length = n
  | 0, _ => rfl
  | n + 1, es => by simp [elemsE, elemsE_len agg size n]
theorem elemsE_get (agg : Bool) (size : Nat) : ∀ (n i : Nat) (es : List E), i < n → (elemsE agg size es n)[i]? = some (if agg then .un .agg (.ofL ((es.drop (i * size)).take size)) else (es.drop (i * size)).headD .nil)
  | 0, i, _, h => by omega
  | n + 1, 0, es, _ => by simp [elemsE]
  | n + 1, i + 1, es, h => by
    simp only [elemsE, List.getElem?_cons_succ]
    rw [elemsE_get agg size n i _ (by omega)]
    rw [List.drop_drop, Nat.add_mul, Nat.one_mul, Nat.add_comm size]

theorem run_buildSlice0 {P : Program} (w : World) (t e : TypeId) (len : Nat) (parts : Array (Nat × Value)) (cells : Array Value) (ie : TypeInfo) (z : Value)
    (hu : P.underlying t = some (.slice e)) (hie : P.info? e = some ie) (hz : ie.zero = some z) (hsmall : ¬ len * ie.size > 2 ^ 24)
    (h : Instr.fill (fun i => some (i * ie.size, ie.size)) ((Array.range (len * ie.size)).map (z.cells[· % z.cells.size]!)) parts.toList = some cells) :
    (Instr.buildSlice t len parts).run P w = .ok (.slice (some ⟨w.heap.size, 0, none⟩) len len) (w.alloc (.cells cells e)) := by
  by_cases hpos : len * ie.size = 0
  · have e0 : ∀ f : Nat → Value, (Array.range (len * ie.size)).map f = #[] := fun f => by rw [hpos]; simp
    rw [e0] at h
    have e3 : ∀ f : Nat → Value, (Array.range 0).map f = #[] := fun f => by simp
    simp [Instr.buildSlice, run_underlying hu, sizeOf, typeInfo, hie, newRow, hpos]
    rw [e3, h]
    simp
  · exact run_buildSlice w t e len parts cells ie z hu hie hz hsmall hpos h

section
variable {P : Program} {C : Cx} {w w0 : World} {S0 : Base} {G : Gh} {σ : St} {a : Act} {o : Oper} {pc : Cond} {s : SV} {is : List Item} {Φ : Nat → List D → D} {Pre : Nat → List D → Prop} {n p : Nat} {cs : Tbl}

/-- A slice literal's run, and what it made. -/
theorem run_opLit {e : E} {T : TypeId} {t : Ty} {len : Nat} (ht : SimT C w G σ.tm a) (hpc : condB C.ρ pc = true) (h : opLit P σ pc o = some (e, T, t, len)) :
    ∃ (xs : List Value) (l : List D), (execOp a.eval o).run P w = .ok (.value (.slice (some ⟨w.heap.size, 0, none⟩) len len)) (w.alloc (.cells xs.toArray T)) ∧ e.lt C.N = true ∧ den C.ρ e = .list l ∧ l.length = len ∧ lenOk t len ∧
      0 < t.cells.length ∧ xs.length = len * t.cells.length ∧ (∀ d ∈ l, Has t d) ∧
      (∀ (i : Nat) d (j : Nat) v c, l[i]? = some d → d.cells[j]? = some c → xs[i * t.cells.length + j]? = some v → Rep w G.S v c) ∧ ∀ cl, litSCs P σ pc o = some cl → RSCs C w G cl xs := by
  unfold opLit at h
  split at h
  · rename_i tt len' parts ho
    split at h
    · rename_i el hu
      split at h
      · rename_i ie u ts ps hie hty hfl hps
        split at h
        · rename_i zs hzs
          obtain ⟨z, hz, hzs⟩ : ∃ z, ie.zero = some z ∧ zeroSCs ts z.cells.toList = some zs := by
            cases hq : ie.zero with
            | none => simp [hq] at hzs
            | some z => exact ⟨z, rfl, by simpa [hq] using hzs⟩
          split at h
          · rename_i hc1
            obtain ⟨hzl, hul, hpos, hsmall, hbyt⟩ := hc1
            split at h
            · rename_i csl hfill
              split at h
              · rename_i es us hds
                split at h
                · rename_i hus
                  have hz0 := zeroSCs_ok (C := C) (w := w) (G := G) hzs
                  have hzsz : z.cells.size = zs.length := by have := hz0.1; simpa using this
                  have hinit : RSCs C w G ((List.range (len' * ie.size)).map fun j => zs.getD (j % zs.length) (.nils .nil)) ((List.range (len' * ie.size)).map fun j => z.cells[j % z.cells.size]!) := by
                    refine ⟨by simp, fun i c v hc hv => ?_⟩
                    have hi : i < len' * ie.size := by have := (List.getElem?_eq_some_iff.1 hc).1; simpa using this
                    simp only [List.getElem?_map, List.getElem?_range hi, Option.map_some, Option.some.injEq] at hc hv
                    have hm : i % zs.length < zs.length := Nat.mod_lt _ (by omega)
                    subst hc; subst hv
                    rw [hzsz]
                    have e1 : zs.getD (i % zs.length) (.nils .nil) = zs[i % zs.length] := by simp [List.getD, hm]
                    have hm' : i % zs.length < z.cells.size := by omega
                    have e2 : z.cells[i % zs.length]! = z.cells.toList[i % zs.length]'(by simpa using hm') := by simp [getElem!_pos, hm']
                    rw [e1, e2]
                    exact hz0.2 _ _ _ (List.getElem?_eq_getElem hm) (List.getElem?_eq_getElem _)
                  obtain ⟨k1, k2⟩ := partsSC_ok ht hpc _ _ _ hps
                  obtain ⟨xs, h1, h2⟩ := fillSC_ok _ _ _ _ _ _ hfill hinit k1 k2
                  obtain ⟨m1, m2, m3, m4, m5⟩ := asDatas_ok hds h2
                  have hlit : ∀ cl, litSCs P σ pc o = some cl → RSCs C w G cl xs := by
                    intro cl hcl
                    have hb : (ie.zero.bind fun z => zeroSCs ts z.cells.toList) = some zs := by rw [hz]; exact hzs
                    unfold litSCs at hcl
                    simp only [ho, hu, hie, hfl, hps, hb] at hcl
                    rw [hfill] at hcl
                    injection hcl with hcl
                    rw [← hcl]; exact h2
                  have hxs : xs.length = len' * ie.size := by
                    rw [← m3, hus.1]; simp [hul]
                  have hrun : ∀ {T}, el = T → (execOp a.eval o).run P w = .ok (.value (.slice (some ⟨w.heap.size, 0, none⟩) len' len')) (w.alloc (.cells xs.toArray T)) := by
                    rintro T rfl
                    have := run_buildSlice0 (P := P) w tt el len' (parts.map fun (i, x) => (i, a.eval x)) xs.toArray ie z hu hie hz (by rw [show (2 : Nat) ^ 24 = 16777216 from rfl]; omega)
                      (by
                        rw [Array.toList_map]
                        have e1 : (Array.range (len' * ie.size)).map (fun x => z.cells[x % z.cells.size]!) = ((List.range (len' * ie.size)).map fun j => z.cells[j % z.cells.size]!).toArray := by apply Array.ext'; simp
                        rw [e1]; exact h1)
                    unfold execOp; simp only [ho, Sem.run_bind]
                    rw [this]; rfl
                  have hmax : len' ≤ maxLen := by
                    have : len' ≤ len' * ie.size := Nat.le_mul_of_pos_right _ hpos
                    have h9 : (16777216 : Nat) ≤ maxLen := by decide
                    omega
                  have hesl : es.length = len' * ie.size := by rw [m2, hxs]
                  have hltes : ∀ e ∈ es, e.lt C.N = true := (ofL_lt es).1 m1
                  -- the types of the cells, one by one
                  have hty2 : ∀ (i j : Nat) (ty : Ty) (x : E), i < len' → j < ie.size → u.cells[j]? = some ty → es[i * ie.size + j]? = some x → Has ty (den C.ρ x) := by
                    intro i j ty x hi hj hty hx
                    have hsl := hasL_get m5 (i * ie.size + j) ty (by rw [Ty.toL_ofL, hus.1, ← hul, rep_flat_get _ _ _ _ hi (by omega)]; exact hty)
                    obtain ⟨d, hd, hhd⟩ := hsl
                    simp only [List.getElem?_map, hx, Option.map_some, Option.some.injEq] at hd
                    subst hd; exact hhd
                  have lt_pos : ∀ {i j : Nat}, i < len' → j < ie.size → i * ie.size + j < len' * ie.size := by
                    intro i j hi hj
                    have : (i + 1) * ie.size ≤ len' * ie.size := Nat.mul_le_mul_right _ hi
                    rw [Nat.add_mul] at this; omega
                  split at h
                  · rename_i fs hagg
                    injection h with h; simp only [Prod.mk.injEq] at h; obtain ⟨rfl, rfl, rfl, rfl⟩ := h
                    have hcl : (Ty.agg (.ofL fs.toL)).cells = fs.toL := by simp [Ty.cells, Ty.toL_ofL]
                    have hfsl : fs.toL.length = ie.size := hul
                    have elem : ∀ i, i < len' → den C.ρ (.un .agg (.ofL ((es.drop (i * ie.size)).take ie.size))) = .agg (((es.drop (i * ie.size)).take ie.size).map (den C.ρ)) := by
                      intro i _; simp only [den, den_ofL, U.den, D.toL]
                    refine ⟨xs, _, hrun rfl, ?_, den_ofL _ _, by simp [elemsE_len], ⟨hmax, by rw [Ty.bytes_ofL]; exact hbyt⟩, by rw [hcl]; omega, by rw [hcl, hfsl]; exact hxs, ?_, ?_, hlit⟩
                    · rw [ofL_lt]
                      intro e he
                      obtain ⟨i, hi⟩ := List.getElem?_of_mem he
                      have hil : i < len' := by have := (List.getElem?_eq_some_iff.1 hi).1; rwa [elemsE_len] at this
                      rw [elemsE_get _ _ _ _ _ hil] at hi
                      simp only [if_true, Option.some.injEq] at hi
                      subst hi
                      simp only [E.lt]
                      rw [ofL_lt]
                      exact fun e he => hltes e (List.mem_of_mem_drop (List.mem_of_mem_take he))
                    · intro d hd
                      obtain ⟨i, hi⟩ := List.getElem?_of_mem hd
                      simp only [List.getElem?_map, Option.map_eq_some_iff] at hi
                      obtain ⟨x, hx, rfl⟩ := hi
                      have hil : i < len' := by have := (List.getElem?_eq_some_iff.1 hx).1; rwa [elemsE_len] at this
                      rw [elemsE_get _ _ _ _ _ hil] at hx
                      simp only [if_true, Option.some.injEq] at hx
                      subst hx
                      rw [elem i hil]
                      have hbound : (i + 1) * ie.size ≤ len' * ie.size := Nat.mul_le_mul_right _ hil
                      rw [Nat.add_mul] at hbound
                      refine has_agg.2 ⟨_, rfl, hasL_mk (by simp [hesl]; omega) fun j ty x hj hx => ?_⟩
                      have hjs : j < ie.size := by rw [← hfsl]; exact (List.getElem?_eq_some_iff.1 hj).1
                      simp only [List.getElem?_map, Option.map_eq_some_iff, List.getElem?_take, if_pos hjs, List.getElem?_drop] at hx
                      obtain ⟨y, hy, rfl⟩ := hx
                      exact hty2 i j ty y hil hjs hj hy
                    · intro i d j v c hd hc hv
                      simp only [List.getElem?_map, Option.map_eq_some_iff] at hd
                      obtain ⟨x, hx, rfl⟩ := hd
                      have hil : i < len' := by have := (List.getElem?_eq_some_iff.1 hx).1; rwa [elemsE_len] at this
                      rw [elemsE_get _ _ _ _ _ hil] at hx
                      simp only [if_true, Option.some.injEq] at hx
                      subst hx
                      rw [elem i hil] at hc
                      simp only [D.cells, List.getElem?_map, Option.map_eq_some_iff, List.getElem?_take] at hc
                      obtain ⟨y, hy, rfl⟩ := hc
                      split at hy
                      · rw [List.getElem?_drop] at hy
                        rw [hcl, hfsl] at hv
                        exact m4 _ v y hv hy
                      · cases hy
                  · rename_i u _ _ hagg
                    split at h
                    · rename_i hone
                      injection h with h; simp only [Prod.mk.injEq] at h; obtain ⟨rfl, rfl, rfl, rfl⟩ := h
                      have hsc : u.scalar = true := by
                        rcases hus.2 with h | h
                        · rw [hagg] at h; cases h
                        · exact h
                      have huc : u.cells = [u] := by cases u <;> first | rfl | cases hsc
                      have elem : ∀ i x, i < len' → (elemsE false 1 es len')[i]? = some x → es[i]? = some x := by
                        intro i x hi hx
                        rw [elemsE_get _ _ _ _ _ hi] at hx
                        simp only [Bool.false_eq_true, if_false, Option.some.injEq, Nat.mul_one] at hx
                        have hil : i < es.length := by rw [hesl, hone]; omega
                        rw [← hx, List.getElem?_eq_getElem hil, List.drop_eq_getElem_cons hil]; rfl
                      have cell1 : ∀ d, Has u d → d.cells = [d] := by
                        intro d hd
                        have := (has_cells hd)
                        rw [huc] at this
                        cases d <;> first | rfl | (rename_i l; exfalso; cases u <;> simp [Ty.scalar] at hsc <;> simp [has_int, has_bool, has_str, has_list, has_box, has_ptr, has_fn] at hd)
                      have hasx : ∀ i x, i < len' → es[i]? = some x → Has u (den C.ρ x) := by
                        intro i x hi hx
                        exact hty2 i 0 u x hi (by omega) (by rw [huc]; rfl) (by rw [hone, Nat.mul_one, Nat.add_zero]; exact hx)
                      refine ⟨xs, _, hrun rfl, ?_, den_ofL _ _, by simp [elemsE_len], ⟨hmax, hbyt⟩, by rw [huc]; simp, by rw [huc]; simpa [hone] using hxs, ?_, ?_, hlit⟩
                      · rw [ofL_lt]
                        intro e he
                        obtain ⟨i, hi⟩ := List.getElem?_of_mem he
                        have hil : i < len' := by have := (List.getElem?_eq_some_iff.1 hi).1; rwa [elemsE_len] at this
                        exact hltes e (List.mem_of_getElem? (elem i e hil hi))
                      · intro d hd
                        obtain ⟨i, hi⟩ := List.getElem?_of_mem hd
                        simp only [List.getElem?_map, Option.map_eq_some_iff] at hi
                        obtain ⟨x, hx, rfl⟩ := hi
                        have hil : i < len' := by have := (List.getElem?_eq_some_iff.1 hx).1; rwa [elemsE_len] at this
                        exact hasx i x hil (elem i x hil hx)
                      · intro i d j v c hd hc hv
                        simp only [List.getElem?_map, Option.map_eq_some_iff] at hd
                        obtain ⟨x, hx, rfl⟩ := hd
                        have hil : i < len' := by have := (List.getElem?_eq_some_iff.1 hx).1; rwa [elemsE_len] at this
                        have hex := elem i x hil hx
                        rw [cell1 _ (hasx i x hil hex)] at hc
                        cases j with
                        | succ j => simp at hc
                        | zero =>
                          simp at hc; subst hc
                          rw [huc] at hv
                          simp only [List.length_cons, List.length_nil, Nat.zero_add, Nat.mul_one, Nat.add_zero] at hv
                          exact m4 i v x hv hex
                    · cases h
                  · cases h
                · cases h
              · cases h
            · cases h
          · cases h
        · cases h
      · cases h
    · cases h
  · cases h

theorem stepped_lit {ops : Array Oper} {e : E} {T : TypeId} {t : Ty} {len : Nat} (hs : Sim n w0 S0 C G σ a w) (hp : ¬ C.M p) (hg : guardOf ops σ o = some pc) (h : opLit P σ pc o = some (e, T, t, len)) (own : Bool) (hown : own = true → pc = [])
    (hlt : e.lt C.N = true) (hdst : ∀ d, o.dst = some d → d < n) (hfr : S0.fr → frOk P cs σ pc o = true) (hnw : ¬ S0.wz) :
    Stepped1 P n w0 S0 C ((⟨o.dst, (pc, if own then .one (.own (p, 0) e t) else .one (.dat e (.list t))), [], if own then [((p, 0), some (e, T, t))] else [], [], []⟩ : Eff).app σ) p ops a w o := by
  intro K Q hK
  obtain ⟨hw, hc⟩ := guardOf_ok hs.t hg
  have hlt' : (if own then SV.one (.own (p, 0) e t) else SV.one (.dat e (.list t))).lt C.N = true := by cases own <;> simpa [SV.lt, SC.lt] using hlt
  rw [hw]
  cases hpc : condB C.ρ pc with
  | false =>
    simp only [Bool.false_eq_true, if_false]
    have ho : own = false := by
      cases own with
      | false => rfl
      | true => have := hown rfl; subst this; simp [condB] at hpc
    subst ho
    exact hK _ _ _ (hs.step (o := o) (e := ⟨o.dst, (pc, .one (.dat e (.list t))), [], [], [], []⟩) (Later.addM C w G p) ((hs.m.addM p).congr (updL_nil _) (updL_nil _)) rfl (by simpa [SV.lt, SC.lt] using hlt) hc
      (by intro _; simp only [hpc, Bool.false_eq_true, if_false]) hdst)
  | true =>
    simp only [if_true]
    obtain ⟨xs, l, hrun, helt, hden, hll, hmax, hpos, hxl, hall, hr, hlit⟩ := run_opLit hs.t hpc h
    unfold Oper.wp
    rw [hrun]
    let G' : Gh := { S := fun b o => G.S b o ∨ (b = w.heap.size ∧ o < xs.length), β := G.β, τ := fun g => if g.1 = p then .slice (some ⟨w.heap.size, 0, none⟩) len len else G.τ g }
    have hkeep : ∀ b o, G.S b o → (w.alloc (.cells xs.toArray T)).cell? ⟨b, o, none⟩ = w.cell? ⟨b, o, none⟩ := fun b o hs' => World.cell?_alloc_lt w _ _ (hs.m.footlt b o hs')
    have hhas : Has (.list t) (den C.ρ e) := by rw [hden]; exact has_list.2 ⟨l, rfl, by rw [hll]; exact hmax, hall⟩
    have hok : OwnOk (C.add p) (w.alloc (.cells xs.toArray T)) w.heap.size G' (p, 0) e T t := by
      refine ⟨.inr rfl, helt, hhas, xs, l, hden, ?_, ?_, ?_⟩
      · show (w.alloc _).ownsRow _ _ _ (if p = p then _ else _) _ _
        rw [if_pos rfl, hll]
        exact ⟨hxl, .inr ⟨w.heap.size, len, xs.toArray, rfl, Nat.le_refl _, heap_alloc_new w _, Nat.le_refl _, hmax.1, by simpa using hxl, by simp [← hxl]⟩⟩
      · intro b hb o
        have hb' : b = w.heap.size := by simp [G', Value.ownBlock] at hb; exact hb.symm
        constructor
        · rintro (h | ⟨_, h⟩)
          · have := hs.m.footlt b o h; omega
          · exact ⟨rfl, h⟩
        · intro ho; exact .inr ⟨hb', ho.2⟩
      · intro i d j v c h1 h2 h3
        exact (hr i d j v c h1 h2 h3).keep (fun _ _ h => .inl h) hkeep
    obtain ⟨hlat, hm⟩ := hs.m.called hp (S' := G'.S) (τ' := fun _ => .slice (some ⟨w.heap.size, 0, none⟩) len len) ((Below.refl _ _).alloc (Nat.le_refl _) _) (fun _ _ h => .inl h)
      (by
        rintro b o (h | ⟨rfl, _⟩)
        · have := hs.m.footlt b o h; simp; omega
        · simp)
      (by
        rintro b o (h | ⟨rfl, _⟩)
        · exact .inl h
        · exact .inr (Nat.le_refl _))
      (updL σ.live (if own then [((p, 0), some (e, T, t))] else [])) G' rfl
      (by
        intro g x hx
        cases own with
        | false => simp only [Bool.false_eq_true, if_false, updL_nil] at hx; exact .inl ⟨not_M_live hs.m hp hx, hx⟩
        | true =>
          simp only [if_true, updL, lk] at hx
          by_cases he : g = (p, 0)
          · rw [if_pos he] at hx; simp only [Option.some.injEq] at hx; subst hx; subst he; exact .inr ⟨rfl, hok⟩
          · rw [if_neg he] at hx; exact .inl ⟨not_M_live hs.m hp hx, hx⟩)
      (by
        intro j k x y b hx hy _ _
        have key : ∀ j x, updL σ.live (if own then [((p, 0), some (e, T, t))] else []) (p, j) = some x → j = 0 := by
          intro j x hx
          cases own with
          | false => simp only [Bool.false_eq_true, if_false, updL_nil] at hx; exact absurd rfl (not_M_live hs.m hp hx)
          | true =>
            simp only [if_true, updL, lk] at hx
            by_cases he : (p, j) = (p, 0)
            · simpa using he
            · rw [if_neg he] at hx; exact absurd rfl (not_M_live hs.m hp hx)
        rw [key j x hx, key k y hy])
      (fun hff _ => by
        have h1 := hfr hff
        obtain ⟨cl, hcl, hclf⟩ : ∃ cl, litSCs P σ pc o = some cl ∧ (cl.all freshSC) = true := by
          unfold opLit at h
          split at h
          · rename_i ho
            unfold frOk at h1
            simp only [ho] at h1
            cases hl : litSCs P σ pc o with
            | none => rw [hl] at h1; cases h1
            | some cl => rw [hl] at h1; exact ⟨cl, rfl, h1⟩
          · cases h
        have hrc := hlit cl hcl
        have hvals : ∀ u ∈ xs, ValIn (FrB (NewB w0 S0) w G.S) u := by
          intro u hu
          obtain ⟨i, hi⟩ := List.getElem?_of_mem hu
          have hil : i < cl.length := by rw [← hrc.1]; exact (List.getElem?_eq_some_iff.1 hi).1
          exact freshSC_val (C := C) (List.all_eq_true.1 hclf _ (List.getElem_mem hil)) (hs.m.fresh hff) (hrc.2 i _ u (List.getElem?_eq_getElem hil) hi)
        intro a0 n0 cap0 hv0
        by_cases hlen : len = 0
        · exact .inl hlen
        · have hxpos : 0 < xs.length := by rw [hxl]; exact Nat.mul_pos (by omega) hpos
          refine .inr ⟨w.heap.size, 0, rfl, fun b => FrB (NewB w0 S0) w G.S b ∨ b = w.heap.size, ?_, .inr rfl⟩
          rintro b (hb | rfl)
          · obtain ⟨h3, ⟨o1, h4⟩, ⟨cur0, T0, h7⟩, h5⟩ := FrB.set _ _ _ b hb
            refine ⟨h3, ⟨o1, .inl h4⟩, ⟨cur0, T0, (Below.heap_alloc w _ _ (hs.m.footlt _ _ h4)).trans h7⟩, fun o2 u hs2 hu => ?_⟩
            rcases hs2 with hs2 | ⟨rfl, _⟩
            · exact (h5 o2 u hs2 (by rw [← hkeep b o2 hs2]; exact hu)).mono fun _ h => .inl h
            · have := hs.m.footlt _ _ h4; omega
          · refine ⟨.inl hs.m.base_le, ⟨0, .inr ⟨rfl, hxpos⟩⟩, ⟨_, _, heap_alloc_new w _⟩, fun o2 u hs2 hu => ?_⟩
            rcases hs2 with hs2 | ⟨_, ho2⟩
            · have := hs.m.footlt _ _ hs2; omega
            · have h6 : (w.alloc (.cells xs.toArray T)).heap[w.heap.size]? = some (.cells xs.toArray T (0, 0)) := heap_alloc_new w _
              rw [cell_of_row _ _ o2 _ T (0, 0) h6] at hu
              simp only [List.getElem?_toArray] at hu
              exact (hvals u (List.mem_of_getElem? hu)).mono fun _ h => .inl h) hnw
    refine hK _ _ _ (hs.step (o := o) (e := ⟨o.dst, (pc, if own then .one (.own (p, 0) e t) else .one (.dat e (.list t))), [], if own then [((p, 0), some (e, T, t))] else [], [], []⟩) hlat (hm.congr (updL_nil _) rfl) rfl hlt' hc ?_ hdst)
    intro _
    simp only [hpc, if_true]
    have hrep := hok.rep hpos
    have hτ : G'.τ (p, 0) = .slice (some ⟨w.heap.size, 0, none⟩) len len := if_pos rfl
    rw [hτ] at hrep
    cases own with
    | true => exact ⟨.inr rfl, helt, hrep, hhas, hτ.symm⟩
    | false => exact ⟨helt, hrep, hhas⟩

theorem stepped_xLit {ops : Array Oper} {e : Eff} (hs : Sim n w0 S0 C G σ a w) (hp : ¬ C.M p) (hg : guardOf ops σ o = some []) (h : xLit P σ p o = some e) (hdst : ∀ d, o.dst = some d → d < n) (hnf : ¬ S0.fr) (hnw : ¬ S0.wz) :
    Stepped1 P n w0 S0 C (e.app σ) p ops a w o := by
  unfold xLit at h
  split at h
  · rename_i ee T t len hl
    injection h with h; subst h
    intro K Q hK
    obtain ⟨hw, hc⟩ := guardOf_ok hs.t hg
    rw [hw, if_pos (show condB C.ρ [] = true from rfl)]
    obtain ⟨xs, l, hrun, helt, hden, hll, hmax, hpos, hxl, hall, hr, _⟩ := run_opLit hs.t (pc := []) rfl hl
    unfold Oper.wp
    rw [hrun]
    let G' : Gh := { S := G.S, β := G.β, τ := fun g => if g.1 = p then .slice (some ⟨w.heap.size, 0, none⟩) len len else G.τ g }
    have hkeep : ∀ b o, G.S b o → (w.alloc (.cells xs.toArray T)).cell? ⟨b, o, none⟩ = w.cell? ⟨b, o, none⟩ := fun b o hs' => World.cell?_alloc_lt w _ _ (hs.m.footlt b o hs')
    have hhas : Has (.list t) (den C.ρ ee) := by rw [hden]; exact has_list.2 ⟨l, rfl, by rw [hll]; exact hmax, hall⟩
    have hok : OwnOk (C.add p) (w.alloc (.cells xs.toArray T)) w.heap.size G' (p, 1000) ee T t := by
      refine ⟨.inr rfl, helt, hhas, xs, l, hden, ?_, ?_, ?_⟩
      · show (w.alloc _).ownsRow _ _ _ (if p = p then _ else _) _ _
        rw [if_pos rfl, hll]
        exact ⟨hxl, .inr ⟨w.heap.size, len, xs.toArray, rfl, Nat.le_refl _, heap_alloc_new w _, Nat.le_refl _, hmax.1, by simpa using hxl, by simp [← hxl]⟩⟩
      · intro b hb o
        have hb' : b = w.heap.size := by simp [G', Value.ownBlock] at hb; exact hb.symm
        constructor
        · intro h
          have := hs.m.footlt b o h; omega
        · intro ho; exact Bool.noConfusion ho.1
      · intro i d j v c h1 h2 h3
        exact (hr i d j v c h1 h2 h3).keep (fun _ _ h => h) hkeep
    have hkey : ∀ j x, updL σ.live [((p, 1000), some (ee, T, t))] (p, j) = some x → j = 1000 := by
      intro j x hx
      simp only [updL, lk] at hx
      by_cases he : (p, j) = (p, 1000)
      · simpa using he
      · rw [if_neg he] at hx; exact absurd rfl (not_M_live hs.m hp hx)
    obtain ⟨hlat, hm⟩ := hs.m.called hp (S' := G'.S) (τ' := fun _ => .slice (some ⟨w.heap.size, 0, none⟩) len len) ((Below.refl _ _).alloc (Nat.le_refl _) _) (fun _ _ h => h)
      (by
        intro b o h
        have := hs.m.footlt b o h; simp; omega)
      (fun b o h => .inl h)
      (updL σ.live [((p, 1000), some (ee, T, t))]) G' rfl
      (by
        intro g x hx
        simp only [updL, lk] at hx
        by_cases he : g = (p, 1000)
        · rw [if_pos he] at hx; simp only [Option.some.injEq] at hx; subst hx; subst he; exact .inr ⟨rfl, hok⟩
        · rw [if_neg he] at hx; exact .inl ⟨not_M_live hs.m hp hx, hx⟩)
      (by
        intro j k x y b hx hy _ _
        rw [hkey j x hx, hkey k y hy])
      (fun hff => absurd hff hnf) hnw
    refine hK _ _ _ (hs.step (o := o) (e := ⟨o.dst, ([], .one (.xo (p, 1000) t)), [], [((p, 1000), some (ee, T, t))], [], []⟩) hlat (hm.congr (updL_nil _) rfl) rfl rfl hc ?_ hdst)
    intro _
    simp only [condB, List.all_nil, if_true]
    have hτ : G'.τ (p, 1000) = .slice (some ⟨w.heap.size, 0, none⟩) len len := if_pos rfl
    exact ⟨.inr rfl, hτ.symm, _, _, _, rfl⟩
  · cases h

/-- One operation. -/
theorem effOp0_ok {ops : Array Oper} {e : Eff} (hs : Sim n w0 S0 C G σ a w) (he : effOp0 P cs ops σ p o = some e) (hp : ¬ C.M p) (hpN : p < C.N) (hcon : ∀ k sig, lk cs.l k = some sig → PureFn P k sig (Pre k) (Φ k))
    (hlt : e.ent.2.lt C.N = true) (hit : ∀ it ∈ e.items, ItemOk C Φ Pre it) (hdst : ∀ d, o.dst = some d → d < n) (hfr : S0.fr → ∀ pc, guardOf ops σ o = some pc → frOk P cs σ pc o = true) (hwz : S0.wz → opKind o.op < 3) (hE : Env1 P cs S0 Φ Pre) : Stepped1 P n w0 S0 C (e.app σ) p ops a w o := by
  unfold effOp0 at he
  split at he
  · cases he
  · rename_i pc hg
    split at he
    · split at he
      · rename_i l hl
        split at he
        · rename_i hc
          obtain ⟨rfl, hsc⟩ := hc
          injection he with he; subst he
          exact stepped_new hs hp hg hl hsc hdst
        · cases he
      · cases he
    · split at he
      · rename_i id l hl
        split at he
        · rename_i hc
          obtain ⟨rfl, hsc, hd⟩ := hc
          injection he with he; subst he
          exact stepped_store hs hg hl hsc hd
        · cases he
      · cases he
    · split at he
      · rename_i e' t fz hf
        injection he with he; subst he
        exact stepped_fn hs hg hf (by simpa [SV.lt, SC.lt] using hlt) hdst
      · cases he
    · rename_i hkd
      have hnw : ¬ S0.wz := fun hw => by have := hwz hw; omega
      split at he
      · rename_i k e' sig hc
        injection he with he; subst he
        exact stepped_call hs hp hpN hg hc hcon (hit _ (by simp)) hlt hdst _ (fun hff => hfr hff _ hg) hnw
      · split at he
        · rename_i x hx
          split at he
          · rename_i hpc
            subst hpc
            injection he with he; subst he
            refine stepped_ocall hs hp hpN hg rfl hx hcon (hit _ (by simp [OCall.eff])) hlt hdst (fun hff => ?_) hnw
            have h1 := hfr hff _ hg
            unfold opOCall at hx
            split at hx
            · rename_i f args argTypes ho
              split at hx
              · rename_i fe k' hf
                split at hx
                · rename_i sig hsig
                  split at hx
                  · rename_i ob hob
                    unfold frOk at h1
                    have h2 : sigOf cs o.dst k' = some sig := by
                      unfold sigOf
                      rw [hsig]
                      simp [hob]
                    simp only [ho, hf, h2, hob, Bool.and_eq_true] at h1
                    simp at h1
                  · cases hx
                · cases hx
              · cases hx
            · cases hx
          · cases he
        · cases he
    · rename_i hkd
      have hnw : ¬ S0.wz := fun hw => by have := hwz hw; omega
      split at he
      · rename_i e1 e2 T t b ha
        split at he
        · rename_i hpc
          subst hpc
          injection he with he; subst he
          exact stepped_appclip hs hp hg ha (hit _ (by simp)) (hit _ (by simp)) hdst _ (fun hff => hfr hff _ hg) hnw
        · cases he
      · split at he
        · rename_i g e1 e2 T t b ha
          split at he
          · rename_i hpc
            subst hpc
            injection he with he; subst he
            exact stepped_append hs hp hg ha (hit _ (by simp)) hdst _ (fun hff => hfr hff _ hg) hnw
          · cases he
        · cases he
    · rename_i hkd
      have hnw : ¬ S0.wz := fun hw => by have := hwz hw; omega
      split at he
      · rename_i e' T t len hl
        split at he
        · rename_i hpe
          injection he with he; subst he
          have := stepped_lit (p := p) hs hp hg hl true (fun _ => by simpa using hpe) (by simpa [SV.lt, SC.lt] using hlt) hdst (fun hff => hfr hff _ hg) hnw
          simpa using this
        · injection he with he; subst he
          have := stepped_lit (p := p) hs hp hg hl false (fun h => by cases h) (by simpa [SV.lt, SC.lt] using hlt) hdst (fun hff => hfr hff _ hg) hnw
          simpa using this
      · cases he
    · split at he
      · rename_i kt T hm
        split at he
        · rename_i hpc
          subst hpc
          injection he with he; subst he
          exact stepped_make hs hp hg hm hE hdst
        · cases he
      · cases he
    · split at he
      · rename_i id ek e' kt T hm
        split at he
        · rename_i hpc
          obtain ⟨rfl, _⟩ := hpc
          injection he with he; subst he
          exact stepped_put hs hg hm hE (hit _ (by simp))
        · cases he
      · cases he
    · split at he
      · rename_i s is rd hpl
        injection he with he; subst he
        exact stepped_plain hs hg hpl hlt hit hdst hE.prog
      · cases he

theorem effOp_ok {ops : Array Oper} {e : Eff} (hs : Sim n w0 S0 C G σ a w) (he : effOp P cs ops σ p o = some e) (hp : ¬ C.M p) (hpN : p < C.N) (hcon : ∀ k sig, lk cs.l k = some sig → PureFn P k sig (Pre k) (Φ k))
    (hlt : e.ent.2.lt C.N = true) (hit : ∀ it ∈ e.items, ItemOk C Φ Pre it) (hdst : ∀ d, o.dst = some d → d < n) (hnf : ¬ S0.fr) (hnw : ¬ S0.wz) (hE : Env1 P cs S0 Φ Pre) : Stepped1 P n w0 S0 C (e.app σ) p ops a w o := by
  unfold effOp at he
  split at he
  · rename_i k hgd hk
    have hg : guardOf ops σ o = some [] := by unfold guardOf; rw [hgd]
    unfold effX at he
    split at he
    · exact stepped_xLoad hs hgd he hlt hdst
    · exact stepped_xStore hs hgd he
    · exact stepped_xLen hs hgd he hlt hdst
    · exact stepped_xIndex hs hgd he hit hlt hdst
    · unfold xAppend at he
      split at he
      · rename_i g e1 e2 T t b ha
        injection he with he; subst he
        exact stepped_appX hs hp hg ha (hit _ (by simp)) hdst _ hnf hnw
      · cases he
    · exact stepped_xLit hs hp hg he hdst hnf hnw
    · split at he
      · exact stepped_eat hs hp hpN hg he hE hit hdst hnf hnw
      · exact stepped_xCall hs hp hpN hg he hcon hit hlt hdst hnf hnw
  · split at he
    · rename_i pc hg
      split at he
      · exact stepped_xCallG hs hp hpN hg he hcon hit hlt hdst hnf hnw
      · exact effOp0_ok hs he hp hpN hcon hlt hit hdst (fun hff => absurd hff hnf) (fun hw => absurd hw hnw) hE
    · cases he
  · exact effOp0_ok hs he hp hpN hcon hlt hit hdst (fun hff => absurd hff hnf) (fun hw => absurd hw hnw) hE

/-- The signature of the function that is called. -/
def opSigOf (P : Program) (cs : Tbl) (σ : St) (o : Oper) : Option Sig :=
  match o.op with
  | .call { callee := .value f, .. } =>
    match getV P σ [] f 0 with
    | some (.one (.dat _ (.fn k .nil))) => lk cs.l k
    | _ => none
  | _ => none
/-- What an operation does, where it is known whether a guarded call that is handed objects is run. -/
def effOpD (d : Option Bool) (P : Program) (cs : Tbl) (ops : Array Oper) (σ : St) (p : Nat) (o : Oper) : Option Eff :=
  match d with
  | none => effOpF P cs ops σ p o
  | some true => if cs.fr != 0 then none else match guardOf ops σ o with
    | some pc => match opOCall P cs σ pc o with
      | some x => some { x.eff p o.dst with items := [.asm pc true, .call p x.k x.args []] }
      | none => none
    | none => none
  | some false => match guardOf ops σ o, opSigOf P cs σ o with
    | some pc, some sig => some ⟨o.dst, (pc, resSVx false p (.un (.cell 0) (.var p)) sig.res), [], [], [], [.asm pc false]⟩
    | _, _ => none

theorem effOpD_ok {d : Option Bool} {ops : Array Oper} {e : Eff} (hs : Sim n w0 S0 C G σ a w) (he : effOpD d P cs ops σ p o = some e) (hp : ¬ C.M p) (hpN : p < C.N) (hcon : ∀ k sig, lk cs.l k = some sig → PureFn P k sig (Pre k) (Φ k))
    (hlt : e.ent.2.lt C.N = true) (hit : ∀ it ∈ e.items, ItemOk C Φ Pre it) (hdst : ∀ d, o.dst = some d → d < n) (hcf : Env1 P cs S0 Φ Pre) : Stepped1 P n w0 S0 C (e.app σ) p ops a w o := by
  unfold effOpD at he
  split at he
  · unfold effOpF at he
    split at he
    · rename_i hf
      exact effOp_ok hs he hp hpN hcon hlt hit hdst (fun hff => by have := hcf.1 hff; omega) (fun hff => by have := hcf.2 hff; omega) hcf
    · rename_i hf
      split at he
      · rename_i pc hg
        split at he
        · rename_i hok
          exact effOp0_ok hs he hp hpN hcon hlt hit hdst (fun _ pc' hg' => by rw [hg] at hg'; injection hg' with hg'; subst hg'; exact hok) (fun hff => by have := hcf.2 hff; omega) hcf
        · cases he
      · cases he
    · rename_i hf0 hf1
      split at he
      · rename_i hk
        exact effOp0_ok hs he hp hpN hcon hlt hit hdst (fun hff => absurd (hcf.1 hff) hf1) (fun _ => hk) hcf
      · cases he
  · split at he
    · cases he
    · rename_i hf
      have hf' : cs.fr = 0 := by simpa using hf
      split at he
      · rename_i pc hg
        split at he
        · rename_i x hx
          injection he with he; subst he
          exact stepped_ocall hs hp hpN hg (hit (.asm pc true) (by simp)) hx hcon (hit _ (by simp)) hlt hdst (fun hff => by have := hcf.1 hff; omega) (fun hff => by have := hcf.2 hff; omega)
        · cases he
      · cases he
  · split at he
    · rename_i pc sig hg hx
      injection he with he; subst he
      intro K Q hK
      obtain ⟨hw, hc⟩ := guardOf_ok hs.t hg
      have hpc : condB C.ρ pc = false := hit (.asm pc false) (by simp)
      rw [hw, hpc]
      simp only [Bool.false_eq_true, if_false]
      refine hK _ _ _ (hs.step (o := o) (Later.addM C w G p) ((hs.m.addM p).congr (updL_nil _) (updL_nil _)) rfl hlt hc (by intro _; simp only [hpc, Bool.false_eq_true, if_false]) hdst)
    · cases he

end
end Go.Eng
/- What an operation's effect hangs on. -/
namespace Go.Eng
open Go Go.RowKit

section
variable {P : Program} {σ σ' : St} {o : Oper} {pc : Cond}

/-- Two states hold the same in an operation's operands. -/
def SameOn (P : Program) (σ σ' : St) (xs : List Operand) : Prop := ∀ x ∈ xs, ∀ (q : Cond) (hint : TypeId), getV P σ' q x hint = getV P σ q x hint

theorem getV_tm {t : Nat} (h : σ'.tm t = σ.tm t) (q : Cond) (hint : TypeId) : getV P σ' q (.tmp t) hint = getV P σ q (.tmp t) hint := by
  simp only [getV, opnd, h]

theorem sameOn_of {xs : List Operand} (h : ∀ t, Operand.tmp t ∈ xs → σ'.tm t = σ.tm t) : SameOn P σ σ' xs := by
  intro x hx q hint
  cases x with
  | tmp t => exact getV_tm (h t hx) q hint
  | const v => cases v <;> simp only [getV, opnd]
  | global g => simp only [getV, opnd]
  | func f => simp only [getV, opnd]

theorem SameOn.d {xs : List Operand} (h : SameOn P σ σ' xs) {x : Operand} (hx : x ∈ xs) (q : Cond) (hint : TypeId) : getD_ P σ' q x hint = getD_ P σ q x hint := by
  unfold getD_; rw [h x hx]

theorem argsE_congr : ∀ {xs : List Operand} {ts : List TypeId}, SameOn P σ σ' xs → argsE P σ' pc xs ts = argsE P σ pc xs ts
  | [], [], _ => rfl
  | [], _ :: _, _ => rfl
  | _ :: _, [], _ => rfl
  | x :: xs, t :: ts, h => by
    simp only [argsE]
    rw [h.d (List.mem_cons_self ..), argsE_congr (fun y hy => h y (List.mem_cons_of_mem _ hy))]

theorem partsSC_congr (hint : Nat → TypeId) : ∀ {xs : List (Nat × Operand)}, SameOn P σ σ' (xs.map (·.2)) → partsSC P σ' pc hint xs = partsSC P σ pc hint xs
  | [], _ => rfl
  | (i, x) :: xs, h => by
    simp only [partsSC]
    rw [h x (by simp), partsSC_congr hint (fun y hy => h y (by simp only [List.map_cons]; exact List.mem_cons_of_mem _ hy))]

theorem capsE_congr : ∀ {xs : List Operand} {es : List (E × Ty)} {fz : List (Nat × List SC)}, SameOn P σ σ' xs → capsE P σ pc xs = some (es, fz) → (∀ x ∈ fz, σ'.hp x.1 = σ.hp x.1) → capsE P σ' pc xs = some (es, fz)
  | [], es, fz, _, h, _ => h
  | x :: xs, es, fz, hs, h, hhp => by
    simp only [capsE] at h ⊢
    rw [hs x (List.mem_cons_self ..)]
    have hs' : SameOn P σ σ' xs := fun y hy => hs y (List.mem_cons_of_mem _ hy)
    split at h
    · rename_i id es' fz' hg hr
      split at h
      · rename_i ro cs hid
        split at h
        · rename_i ds ts hds
          injection h with h; simp only [Prod.mk.injEq] at h; obtain ⟨rfl, rfl⟩ := h
          rw [capsE_congr hs' hr (fun y hy => hhp y (List.mem_cons_of_mem _ hy))]
          simp only [hg]
          rw [hhp (id, cs) (by simp)]
          simp only [hid, hds]
        · cases h
      · cases h
    · rename_i e fs es' fz' hg hr
      injection h with h; simp only [Prod.mk.injEq] at h; obtain ⟨rfl, rfl⟩ := h
      rw [capsE_congr hs' hr hhp]
      simp only [hg]
    · cases h

theorem opPlain_congr {pl : Pl} {rd : List Nat} (hs : SameOn P σ σ' o.op.operands.toList) (h : opPlain P σ pc o = some (pl, rd)) (hhp : ∀ id ∈ rd, σ'.hp id = σ.hp id) : opPlain P σ' pc o = some (pl, rd) := by
  have e : ∀ {x : Option Pl} {y : Option Pl}, y = x → x.map (·, ([] : List Nat)) = some (pl, rd) → y.map (·, ([] : List Nat)) = some (pl, rd) := fun h1 h2 => h1 ▸ h2
  unfold opPlain at h ⊢
  split at h
  · rename_i t x ho
    rw [ho] at hs
    try simp only [ho]
    unfold opLoad at h ⊢
    simp only [ho] at h ⊢
    rw [hs x (by simp [Op.operands])]
    split at h
    · cases h
    · rename_i hc
      rw [if_neg hc]
      split at h
      · rename_i id off hx
        try simp only [hx]
        split at h
        · rename_i ro cs hid
          have hrd : rd = [id] := by
            split at h
            · cases h
            split at h
            · split at h
              · split at h
                · injection h with h; simp only [Prod.mk.injEq] at h; exact h.2.symm
                · cases h
              · cases h
            · split at h
              · injection h with h; simp only [Prod.mk.injEq] at h; exact h.2.symm
              · cases h
          rw [hhp id (by rw [hrd]; simp), hid]
          exact h
        · cases h
      · rename_i hx; try simp only [hx]
        exact h
      · rename_i hx; try simp only [hx]
        exact h
      · rename_i hx; try simp only [hx]
        exact h
      · cases h
  · rename_i x ho; rw [ho] at hs; try simp only [ho]
    refine e ?_ h
    unfold opMove; simp only [ho]; rw [hs x (by simp [Op.operands])]
  · rename_i x ho; rw [ho] at hs; try simp only [ho]
    refine e ?_ h
    unfold opMove; simp only [ho]; rw [hs x (by simp [Op.operands])]
  · rename_i c x y ho; rw [ho] at hs; try simp only [ho]
    refine e ?_ h
    unfold opPick; simp only [ho]
    rw [hs.d (x := c) (by simp [Op.operands])]
    have h1 := fun q hint => hs.d (x := x) (by simp [Op.operands]) q hint
    have h2 := fun q hint => hs.d (x := y) (by simp [Op.operands]) q hint
    simp only [h1, h2]
  · rename_i op xt x y yt ho; rw [ho] at hs; try simp only [ho]
    refine e ?_ h
    unfold opBin2 opBinAdr opBin; simp only [ho]
    rw [hs.d (x := x) (by simp [Op.operands]), hs.d (x := y) (by simp [Op.operands]), hs x (by simp [Op.operands])]
  · rename_i op xt x ho; rw [ho] at hs; try simp only [ho]
    refine e ?_ h
    have h1 := fun q hint => hs.d (x := x) (by simp [Op.operands]) q hint
    unfold opUn; simp only [ho]
    cases op <;> simp only [h1]
  · rename_i s d x ho; rw [ho] at hs; try simp only [ho]
    refine e ?_ h
    unfold opUn; simp only [ho]
    rw [hs.d (x := x) (by simp [Op.operands])]
  · rename_i x j ho; rw [ho] at hs; try simp only [ho]
    refine e ?_ h
    unfold opExtract; simp only [ho]; rw [hs x (by simp [Op.operands])]
  · rename_i t x f ho; rw [ho] at hs; try simp only [ho]
    refine e ?_ h
    unfold opFieldAddr; simp only [ho]; rw [hs x (by simp [Op.operands])]
  · rename_i t x f ho; rw [ho] at hs; try simp only [ho]
    refine e ?_ h
    unfold opField; simp only [ho]; rw [hs x (by simp [Op.operands])]
  · rename_i t x i ho; rw [ho] at hs; try simp only [ho]
    refine e ?_ h
    have h1 := fun q hint => hs x (by simp [Op.operands]) q hint
    have h2 := fun q hint => hs.d (x := x) (by simp [Op.operands]) q hint
    have h3 := fun q hint => hs.d (x := i) (by simp [Op.operands]) q hint
    have e1 : opIndexSl P σ' pc o = opIndexSl P σ pc o := by
      unfold opIndexSl; simp only [ho]
      rw [h2, h3]
    have e2 : opIndexArr P σ' pc o = opIndexArr P σ pc o := by
      unfold opIndexArr; simp only [ho]
      split
      · rename_i ho' ; injection ho' with q1 q2 q3; subst q1; subst q2; rw [h1]
      · rfl
    unfold opIndexAddr; rw [e1, e2]
  · rename_i x ho; rw [ho] at hs; try simp only [ho]
    refine e ?_ h
    unfold opNil; simp only [ho]; rw [hs x (by simp [Op.operands])]
  · rename_i t x lo hi ho; rw [ho] at hs; try simp only [ho]
    refine e ?_ h
    unfold opSlice; simp only [ho]
    have h1 := fun q hint => hs.d (x := x) (by simp [Op.operands]) q hint
    have h2 := fun y (hy : y ∈ lo.toArray) q hint => hs.d (x := y) (by simp [Op.operands] at hy ⊢; simp [hy]) q hint
    have h3 := fun y (hy : y ∈ hi.toArray) q hint => hs.d (x := y) (by simp [Op.operands] at hy ⊢; simp [hy]) q hint
    cases lo with
    | none => cases hi with
      | none => simp only [h1]
      | some y => simp only [h1, h3 y (by simp)]
    | some z => cases hi with
      | none => simp only [h1, h2 z (by simp)]
      | some y => simp only [h1, h3 y (by simp), h2 z (by simp)]
  · rename_i t x lo hi mx hno ho; rw [ho] at hs; try simp only [ho]
    cases mx with
    | none => exact absurd rfl hno
    | some m =>
      refine e ?_ h
      unfold opSlice3; simp only [ho]
      have h1 := fun q hint => hs.d (x := x) (by simp [Op.operands]) q hint
      have h3 := fun y (hy : y ∈ hi.toArray) q hint => hs.d (x := y) (by simp [Op.operands] at hy ⊢; simp [hy]) q hint
      have h4 := fun q hint => hs.d (x := m) (by simp [Op.operands]) q hint
      cases lo with
      | some z => rfl
      | none => cases hi with
        | none => rfl
        | some y => simp only [h1, h3 y (by simp), h4]
  · rename_i t parts ho; rw [ho] at hs; try simp only [ho]
    refine e ?_ h
    unfold opBuild; simp only [ho]
    have h1 := fun hint => partsSC_congr (P := P) (σ := σ) (σ' := σ') (pc := pc) hint (xs := parts.toList) (by simpa [Op.operands] using hs)
    simp only [h1]
  · rename_i T m x ok ho; rw [ho] at hs; try simp only [ho]
    unfold opLook at h ⊢
    simp only [ho] at h ⊢
    cases ok with
    | true => cases h
    | false =>
      simp only at h ⊢
      rw [hs m (by simp [Op.operands]), hs.d (x := x) (by simp [Op.operands])]
      split at h
      · rename_i id ek kt h1 h2
        try simp only [h1, h2]
        split at h
        · rename_i ro cs hid
          have hrd : rd = [id] := by
            split at h
            · split at h
              · injection h with h; simp only [Prod.mk.injEq] at h; exact h.2.symm
              · cases h
            · cases h
          rw [hhp id (by rw [hrd]; simp), hid]
          exact h
        · cases h
      · cases h
  · rename_i args argTypes ho; rw [ho] at hs
    have h1 : ∀ x ∈ args.toList, ∀ q hint, getD_ P σ' q x hint = getD_ P σ q x hint := fun x hx q hint => hs.d (by simp [Op.operands, Call.operands]; simpa using hx) q hint
    refine e ?_ h
    unfold opLen; simp only [ho]
    split
    · rename_i x t hl _
      rw [h1 x (by rw [hl]; simp)]
    · rfl
  · rename_i args argTypes ho; rw [ho] at hs
    have h1 : ∀ x ∈ args.toList, ∀ q hint, getD_ P σ' q x hint = getD_ P σ q x hint := fun x hx q hint => hs.d (by simp [Op.operands, Call.operands]; simpa using hx) q hint
    refine e ?_ h
    unfold opLen; simp only [ho]
    split
    · rename_i x y hl
      rw [h1 x (by rw [hl]; simp), h1 y (by rw [hl]; simp)]
    · rfl
  · rename_i args argTypes ho; rw [ho] at hs
    have h1 : ∀ x ∈ args.toList, ∀ q hint, getD_ P σ' q x hint = getD_ P σ q x hint := fun x hx q hint => hs.d (by simp [Op.operands, Call.operands]; simpa using hx) q hint
    refine e ?_ h
    unfold opLen; simp only [ho]
    split
    · rename_i x y hl
      rw [h1 x (by rw [hl]; simp), h1 y (by rw [hl]; simp)]
    · rfl
  · cases h

theorem guardOf_congr {ops : Array Oper} (h : ∀ t, t ∈ o.looksAt ops → σ'.tm t = σ.tm t) : guardOf ops σ' o = guardOf ops σ o := by
  unfold guardOf
  split
  · rfl
  · rename_i j want hg
    split
    · rename_i t ht
      rw [h t (by unfold Oper.looksAt; rw [hg]; simp only [ht]; simp)]
    · rfl

theorem retCell_congr {r : RCell} {c : SC} {e : E} {l : OwnL} (h : retCell σ r c = some (e, l)) (hl : ∀ j g, (j, some g) ∈ l → σ'.live g = σ.live g) : retCell σ' r c = some (e, l) := by
  obtain ⟨t, _ | ⟨j0, T⟩⟩ := r
  · exact h
  · simp only [retCell] at h ⊢
    split at h
    · exact h
    · rename_i g e0 t'
      split at h
      · rename_i e1 T' t'' hlv
        split at h
        · rename_i hc
          injection h with h; simp only [Prod.mk.injEq] at h; obtain ⟨rfl, rfl⟩ := h
          rw [hl j0 g (by simp), hlv]
          simp only [hc, and_self, if_true]
        · cases h
      · cases h
    · rename_i g t'
      split at h
      · rename_i e1 T' t'' hlv
        split at h
        · rename_i hc
          injection h with h; simp only [Prod.mk.injEq] at h; obtain ⟨rfl, rfl⟩ := h
          rw [hl j0 g (by simp), hlv]
          simp only [hc, and_self, if_true]
        · cases h
      · cases h
    · cases h
theorem retCells_congr : ∀ {rs : List RCell} {cs : List SC} {es : List E} {l : OwnL}, retCells σ rs cs = some (es, l) → (∀ j g, (j, some g) ∈ l → σ'.live g = σ.live g) → retCells σ' rs cs = some (es, l)
  | [], [], es, l, h, _ => h
  | [], _ :: _, _, _, h, _ => by cases h
  | _ :: _, [], _, _, h, _ => by cases h
  | r :: rs, c :: cs, es, l, h, hl => by
    simp only [retCells] at h ⊢
    split at h
    · rename_i h1 h2
      injection h with h; simp only [Prod.mk.injEq] at h; obtain ⟨rfl, rfl⟩ := h
      rw [retCell_congr h1 (fun j g hm => hl j g (List.mem_append_left _ hm)), retCells_congr h2 (fun j g hm => hl j g (List.mem_append_right _ hm))]
    · cases h
theorem oObjs_congr : ∀ {rcs : List (List RCell)} {ids : List Nat} {ess : List (List E)} {l : OwnL}, oObjs σ rcs ids = some (ess, l) → (∀ id ∈ ids, σ'.hp id = σ.hp id) → (∀ j g, (j, some g) ∈ l → σ'.live g = σ.live g) → oObjs σ' rcs ids = some (ess, l)
  | [], [], _, _, h, _, _ => h
  | [], _ :: _, _, _, h, _, _ => by cases h
  | _ :: _, [], _, _, h, _, _ => by cases h
  | rc :: r, id :: ids, ess, l, h, hh, hl => by
    simp only [oObjs] at h ⊢
    rw [hh id (by simp)]
    split at h
    · split at h
      · rename_i h1 h2
        injection h with h; simp only [Prod.mk.injEq] at h; obtain ⟨rfl, rfl⟩ := h
        rw [retCells_congr h1 (fun j g hm => hl j g (List.mem_append_left _ hm)), oObjs_congr h2 (fun id hi => hh id (by simp [hi])) (fun j g hm => hl j g (List.mem_append_right _ hm))]
      · cases h
    · cases h
theorem oArgs_congr : ∀ {sh : List Bool} {xs : List Operand} {ts : List TypeId}, SameOn P σ σ' xs → oArgs P σ' pc sh xs ts = oArgs P σ pc sh xs ts
  | [], [], [], _ => rfl
  | false :: sh, x :: l, t :: ts, hs => by
    simp only [oArgs]
    rw [hs.d (by simp), oArgs_congr (fun y hy => hs y (by simp [hy]))]
  | true :: sh, x :: l, t :: ts, hs => by
    simp only [oArgs]
    rw [hs x (by simp), oArgs_congr (fun y hy => hs y (by simp [hy]))]
  | [], [], _ :: _, _ => by simp [oArgs]
  | [], _ :: _, ts, _ => by cases ts <;> simp [oArgs]
  | b :: _, [], ts, _ => by cases b <;> cases ts <;> simp [oArgs]
  | b :: _, _ :: _, [], _ => by cases b <;> simp [oArgs]
theorem opOCall_congr {cs : Tbl} {x : OCall} (hs : SameOn P σ σ' o.op.operands.toList) (h : opOCall P cs σ pc o = some x) (hh : ∀ id ∈ x.ids, σ'.hp id = σ.hp id) (hl : ∀ j g, (j, some g) ∈ x.own → σ'.live g = σ.live g) :
    opOCall P cs σ' pc o = some x := by
  unfold opOCall at h ⊢
  split at h
  · rename_i f args argTypes ho
    try simp only [ho]
    rw [hs f (by rw [ho]; simp [Op.operands, Call.operands])]
    split at h
    · rename_i fe k' hf
      try simp only [hf]
      split at h
      · rename_i sig hsig
        try simp only [hsig]
        split at h
        · rename_i ob hob
          try simp only [hob]
          rw [oArgs_congr (fun x hx => hs x (by rw [ho]; simp [Op.operands, Call.operands]; right; simpa using hx))]
          split at h
          · rename_i es ids hes
            try simp only [hes]
            split at h
            · rename_i ess l hobjs
              split at h
              · rename_i hcnd
                injection h with h; subst h
                rw [oObjs_congr hobjs hh hl]
                exact if_pos hcnd
              · cases h
            · cases h
          · cases h
        · cases h
      · cases h
    · cases h
  · cases h

/-- An effect is the same in every state that agrees where the operation looks. -/
theorem opAppClip_congr (hs : SameOn P σ σ' o.op.operands.toList) : opAppClip P σ' o = opAppClip P σ o := by
  unfold opAppClip
  split
  · rename_i args argTypes ho
    split
    · rename_i s x tt tt' hargs hats
      have m1 : s ∈ o.op.operands.toList := by rw [ho]; simp [Op.operands, Call.operands]; have : s ∈ args.toList := by rw [hargs]; simp
                                               simpa using this
      have m2 : x ∈ o.op.operands.toList := by rw [ho]; simp [Op.operands, Call.operands]; have : x ∈ args.toList := by rw [hargs]; simp
                                               simpa using this
      rw [hs s m1, hs.d m2]
    · rfl
  · rfl

theorem effOp0_congr {cs : Tbl} {ops : Array Oper} {p : Nat} {e : Eff} (he : effOp0 P cs ops σ p o = some e) (htm : ∀ t, t ∈ o.looksAt ops → σ'.tm t = σ.tm t) (hhp : ∀ id ∈ e.rd, σ'.hp id = σ.hp id)
    (hlive : ∀ x ∈ e.live, x.2 = none → σ'.live x.1 = σ.live x.1) : effOp0 P cs ops σ' p o = some e := by
  have hs : SameOn P σ σ' o.op.operands.toList := sameOn_of fun t ht => htm t (by
    unfold Oper.looksAt
    exact List.mem_append_left _ (List.mem_filterMap.2 ⟨.tmp t, ht, rfl⟩))
  unfold effOp0 at he ⊢
  rw [guardOf_congr htm]
  split at he
  · cases he
  · rename_i pc hg
    try simp only [hg]
    split at he
    · rename_i hk
      have : opNew P σ' pc o = opNew P σ pc o := by
        unfold opNew
        split
        · rfl
        · rename_i t x ho
          rw [hs x (by rw [ho]; simp [Op.operands])]
        · rfl
      try simp only [hk]
      rw [this]; exact he
    · rename_i hk
      try simp only [hk]
      split at he
      · rename_i id l hl
        have hrd : id ∈ e.rd := by
          split at he
          · injection he with he; subst he; simp
          · cases he
        have : opStore P σ' pc o = some (id, l) := by
          unfold opStore at hl ⊢
          split at hl
          · rename_i t x y ho
            try simp only [ho]
            rw [hs x (by rw [ho]; simp [Op.operands]), hs y (by rw [ho]; simp [Op.operands])]
            split at hl
            · rename_i id' off cs' sz h1 h2 h3
              try simp only [h1, h2, h3]
              split at hl
              · rename_i old hid
                split at hl
                · rename_i hc
                  injection hl with hl; simp only [Prod.mk.injEq] at hl; obtain ⟨rfl, rfl⟩ := hl
                  rw [hhp _ hrd, hid]
                  exact if_pos hc
                · cases hl
              · cases hl
            · cases hl
          · cases hl
        rw [this]; exact he
      · cases he
    · rename_i hk
      try simp only [hk]
      split at he
      · rename_i e' t fz hf
        injection he with he; subst he
        have : opFn P σ' pc o = some (e', t, fz) := by
          unfold opFn at hf ⊢
          split at hf
          · rename_i f first captured ho
            try simp only [ho]
            split at hf
            · rename_i hfi
              rw [if_pos hfi]
              split at hf
              · rename_i es fz' hcaps
                injection hf with hf; simp only [Prod.mk.injEq] at hf; obtain ⟨h1, h2, h3⟩ := hf
                subst h3
                rw [capsE_congr (fun x hx => hs x (by rw [ho]; simp [Op.operands]; right; simpa using hx)) hcaps (fun x hx => hhp x.1 (by simp only [List.mem_map]; exact ⟨x, hx, rfl⟩))]
                simp only [h1, h2]
              · cases hf
            · cases hf
          · cases hf
        rw [this]
      · cases he
    · rename_i hk
      try simp only [hk]
      have : opCall P cs σ' pc o = opCall P cs σ pc o := by
        unfold opCall
        split
        · rename_i f args argTypes ho
          rw [hs f (by rw [ho]; simp [Op.operands, Call.operands]), argsE_congr (fun x hx => hs x (by rw [ho]; simp [Op.operands, Call.operands]; right; simpa using hx))]
        · rfl
      rw [this]
      split at he
      · exact he
      · split at he
        · rename_i x hx
          have : opOCall P cs σ' [] o = some x := by
            split at he
            · injection he with he; subst he
              refine opOCall_congr hs hx hhp (fun j g hm => hlive (g, none) ?_ rfl)
              exact List.mem_append_left _ (List.mem_append_left _ (List.mem_filterMap.2 ⟨(j, some g), hm, rfl⟩))
            · cases he
          rw [this]; exact he
        · cases he
    · rename_i hk
      try simp only [hk]
      rw [opAppClip_congr hs]
      split at he
      · exact he
      split at he
      · rename_i g e1 e2 T t b ha
        have hlv : ∀ g', g = some g' → σ'.live g' = σ.live g' := by
          rintro g' rfl
          split at he
          · injection he with he; subst he
            exact hlive (g', none) (by simp) rfl
          · cases he
        have : opAppend P σ' pc o = some (g, e1, e2, T, t, b) := by
          unfold opAppend at ha ⊢
          split at ha
          · rename_i args argTypes ho
            try simp only [ho]
            split at ha
            · rename_i s x tt tt' hargs hats
              try simp only [hargs, hats]
              have m1 : s ∈ o.op.operands.toList := by rw [ho]; simp [Op.operands, Call.operands]; have : s ∈ args.toList := by rw [hargs]; simp
                                                       simpa using this
              have m2 : x ∈ o.op.operands.toList := by rw [ho]; simp [Op.operands, Call.operands]; have : x ∈ args.toList := by rw [hargs]; simp
                                                       simpa using this
              rw [hs s m1, hs.d m2]
              split at ha
              · rename_i el sv ex u hu hsv hx
                try simp only [hu, hsv, hx]
                split at ha
                · rename_i ie u' hie hu'
                  try simp only [hie, hu']
                  split at ha
                  · rename_i hc
                    rw [if_pos hc]
                    split at ha
                    · rename_i v
                      exact ha
                    · rename_i g0 e0 v
                      split at ha
                      · rename_i e1' T' v' hl
                        split at ha
                        · rename_i hc2
                          injection ha with ha; simp only [Prod.mk.injEq] at ha; obtain ⟨rfl, rfl, rfl, rfl, rfl, rfl⟩ := ha
                          try simp only []
                          rw [hlv g0 rfl, hl]
                          simp only [hc2, and_self, if_true]
                        · cases ha
                      · cases ha
                    · cases ha
                  · cases ha
                · cases ha
              · cases ha
            · cases ha
          · cases ha
        rw [this]; exact he
      · cases he
    · rename_i hk
      try simp only [hk]
      have : opLit P σ' pc o = opLit P σ pc o := by
        unfold opLit
        split
        · rename_i t len parts ho
          have h1 := fun hint => partsSC_congr (P := P) (σ := σ) (σ' := σ') (pc := pc) hint (xs := parts.toList) (by rw [ho] at hs; simpa [Op.operands] using hs)
          simp only [h1]
        · rfl
      rw [this]; exact he
    · rename_i hk
      try simp only [hk]
      exact he
    · rename_i hk
      try simp only [hk]
      split at he
      · rename_i id ek e' kt T hl
        have hrd : id ∈ e.rd := by
          split at he
          · injection he with he; subst he; simp
          · cases he
        have : opPut P σ' o = some (id, ek, e', kt, T) := by
          unfold opPut at hl ⊢
          split at hl
          · rename_i T0 m x ho
            try simp only [ho]
            rw [hs m (by rw [ho]; simp [Op.operands]), hs.d (x := x) (by rw [ho]; simp [Op.operands])]
            split at hl
            · rename_i id' ek' kt' h1 h2
              try simp only [h1, h2]
              split at hl
              · rename_i cs0 hid
                split at hl
                · rename_i e0 kt0 T' hmap
                  split at hl
                  · rename_i hc
                    injection hl with hl; simp only [Prod.mk.injEq] at hl; obtain ⟨rfl, rfl, rfl, rfl, rfl⟩ := hl
                    rw [hhp _ hrd, hid]
                    simp only [hmap]
                    exact if_pos hc
                  · cases hl
                · cases hl
              · cases hl
            · cases hl
          · cases hl
        rw [this]; exact he
      · cases he
    · split at he
      · rename_i s is rd hpl
        injection he with he; subst he
        rw [opPlain_congr hs hpl hhp]
      · cases he

theorem liveX_congr {g : Tag} {t : Ty} (h : σ'.live g = σ.live g) : liveX σ' g t = liveX σ g t := by unfold liveX; rw [h]
theorem xKind_congr {cs : Tbl} (hs : SameOn P σ σ' o.op.operands.toList) : xKind P cs σ' o = xKind P cs σ o := by
  unfold xKind
  split
  · rename_i t x ho; rw [hs x (by rw [ho]; simp [Op.operands])]
  · rename_i t x y ho; rw [hs x (by rw [ho]; simp [Op.operands])]
  · rename_i t x i ho; rw [hs x (by rw [ho]; simp [Op.operands])]
  · rename_i args argTypes ho
    split
    · rename_i x t hl ht
      have m1 : x ∈ o.op.operands.toList := by rw [ho]; simp [Op.operands, Call.operands]; have : x ∈ args.toList := by rw [hl]; simp
                                               simpa using this
      rw [hs x m1]
    · rfl
  · rename_i args argTypes ho
    split
    · rename_i x _ t _ hl ht
      have m1 : x ∈ o.op.operands.toList := by rw [ho]; simp [Op.operands, Call.operands]; have : x ∈ args.toList := by rw [hl]; simp
                                               simpa using this
      rw [hs x m1]
    · rfl
  · rfl
  · rename_i f args argTypes ho
    have : (args.toList.zip argTypes.toList).any (argXo P σ') = (args.toList.zip argTypes.toList).any (argXo P σ) := by
      have key : ∀ x ∈ args.toList.zip argTypes.toList, argXo P σ' x = argXo P σ x := by
        intro x hx
        have hm : x.1 ∈ args.toList := (List.of_mem_zip (a := x.1) (b := x.2) hx).1
        unfold argXo
        rw [hs x.1 (by rw [ho]; simp [Op.operands, Call.operands]; right; simpa using hm)]
      rw [Bool.eq_iff_iff, List.any_eq_true, List.any_eq_true]
      exact ⟨fun ⟨x, hx, h⟩ => ⟨x, hx, key x hx ▸ h⟩, fun ⟨x, hx, h⟩ => ⟨x, hx, (key x hx).symm ▸ h⟩⟩
    rw [this]
  · rfl
theorem asDataX_congr {c : SC} {y : (E × Ty) × List (Tag × Option (E × TypeId × Ty))} (h : asDataX σ c = some y) (hl : ∀ z ∈ y.2, σ'.live z.1 = σ.live z.1) : asDataX σ' c = some y := by
  cases c with
  | xo g t =>
    simp only [asDataX] at h ⊢
    split at h
    · rename_i e T hx
      injection h with h; subst h
      rw [liveX_congr (hl _ (List.mem_singleton.2 rfl)), hx]
    · cases h
  | _ => exact h
theorem asDatasX_congr : ∀ {cl : List SC} {y : (List E × List Ty) × List (Tag × Option (E × TypeId × Ty))}, asDatasX σ cl = some y → (∀ z ∈ y.2, σ'.live z.1 = σ.live z.1) → asDatasX σ' cl = some y
  | [], y, h, _ => h
  | c :: cl, y, h, hl => by
    simp only [asDatasX] at h ⊢
    split at h
    · rename_i e t l es ts ls h1 h2
      injection h with h; subst h
      rw [asDataX_congr h1 (fun z hz => hl z (List.mem_append_left _ hz)), asDatasX_congr h2 (fun z hz => hl z (List.mem_append_right _ hz))]
    · cases h
theorem asDataVX_congr {s : SV} {y : (E × Ty) × List (Tag × Option (E × TypeId × Ty))} (h : asDataVX σ s = some y) (hl : ∀ z ∈ y.2, σ'.live z.1 = σ.live z.1) : asDataVX σ' s = some y := by
  cases s with
  | one c => exact asDataX_congr h hl
  | agg cl =>
    simp only [asDataVX] at h ⊢
    split at h
    · rename_i es ts ls h1
      injection h with h; subst h
      rw [asDatasX_congr h1 hl]
    · cases h
  | tup l => cases h
theorem argsX_congr : ∀ {xs : List Operand} {ts : List TypeId} {y : List (E × Ty) × List (Tag × Option (E × TypeId × Ty))}, SameOn P σ σ' xs → argsX P σ pc xs ts = some y → (∀ z ∈ y.2, σ'.live z.1 = σ.live z.1) → argsX P σ' pc xs ts = some y
  | [], [], y, _, h, _ => h
  | x :: xs, t :: ts, y, hs, h, hl => by
    simp only [argsX] at h ⊢
    split at h
    · rename_i e l es ls h1 h2
      injection h with h; subst h
      rw [hs x (by simp)]
      rw [Option.bind_eq_some_iff] at h1
      obtain ⟨sv, q1, q2⟩ := h1
      rw [q1, Option.bind_some, asDataVX_congr q2 (fun z hz => hl z (List.mem_append_left _ hz)), argsX_congr (fun z hz => hs z (by simp [hz])) h2 (fun z hz => hl z (List.mem_append_right _ hz))]
    · cases h
  | [], _ :: _, _, _, h, _ => by cases h
  | _ :: _, [], _, _, h, _ => by cases h

theorem xKindG_congr (hs : SameOn P σ σ' o.op.operands.toList) : xKindG P σ' pc o = xKindG P σ pc o := by
  unfold xKindG
  split
  · rename_i f args argTypes ho
    have key : ∀ x ∈ args.toList.zip argTypes.toList, argXoG P σ' pc x = argXoG P σ pc x := by
      intro x hx
      have hm : x.1 ∈ args.toList := (List.of_mem_zip (a := x.1) (b := x.2) hx).1
      unfold argXoG
      rw [hs x.1 (by rw [ho]; simp [Op.operands, Call.operands]; right; simpa using hm)]
    rw [Bool.eq_iff_iff, List.any_eq_true, List.any_eq_true]
    exact ⟨fun ⟨x, hx, h⟩ => ⟨x, hx, key x hx ▸ h⟩, fun ⟨x, hx, h⟩ => ⟨x, hx, (key x hx).symm ▸ h⟩⟩
  · rfl
theorem xCallG_congr {cs : Tbl} {p : Nat} {e : Eff} (hs : SameOn P σ σ' o.op.operands.toList) (he : xCallG P cs σ pc p o = some e) (hlive : ∀ x ∈ e.live, σ'.live x.1 = σ.live x.1) : xCallG P cs σ' pc p o = some e := by
  unfold xCallG at he ⊢
  split at he
  · rename_i f args argTypes ho
    try simp only [ho]
    rw [hs f (by rw [ho]; simp [Op.operands, Call.operands])]
    split at he
    · rename_i fe k' es l hf hes
      split at he
      · rename_i sig hsig
        split at he
        · rename_i hc
          injection he with he; subst he
          rw [argsX_congr (fun x hx => hs x (by rw [ho]; simp [Op.operands, Call.operands]; right; simpa using hx)) hes hlive]
          simp only [hf, hsig]
          exact if_pos hc
        · cases he
      · cases he
    · cases he
  · cases he

theorem eatCall_congr {cs : Tbl} {p : Nat} {e : Eff} (hs : SameOn P σ σ' o.op.operands.toList) (he : eatCall P cs σ p o = some e) (hhp : ∀ id ∈ e.rd, σ'.hp id = σ.hp id) (hlive : ∀ x ∈ e.live, σ'.live x.1 = σ.live x.1) : eatCall P cs σ' p o = some e := by
  unfold eatCall at he ⊢
  split at he
  · rename_i k args argTypes ho
    try simp only [ho]
    split at he
    · rename_i sg hsg
      try simp only [hsg]
      have hsub : SameOn P σ σ' args.toList := fun x hx => hs x (by rw [ho]; simp [Op.operands, Call.operands]; right; simpa using hx)
      rw [argsE_congr (fun x hx => hsub x (List.mem_of_mem_take hx))]
      split at he
      · rename_i es xo xm hes hdrop
        have hxo : xo ∈ args.toList := List.mem_of_mem_drop (i := sg.ps.length) (by rw [hdrop]; simp)
        have hxm : xm ∈ args.toList := List.mem_of_mem_drop (i := sg.ps.length) (by rw [hdrop]; simp)
        try simp only [hes, hdrop]
        rw [hsub xo hxo, hsub xm hxm]
        split at he
        · rename_i g t id hgo hgm
          try simp only [hgo, hgm]
          split at he
          · rename_i ex T hcs hlx hid
            split at he
            · rename_i em kt TM hmap
              split at he
              · rename_i hcnd
                injection he with he; subst he
                rw [liveX_congr (hlive (g, none) (by simp)), hhp id (by simp)]
                try simp only [hlx, hid, hmap]
                exact if_pos hcnd
              · cases he
            · cases he
          · cases he
        · cases he
      · cases he
    · cases he
  · cases he

theorem effX_congr {cs : Tbl} {p k : Nat} {e : Eff} (hs : SameOn P σ σ' o.op.operands.toList) (he : effX P cs σ p o k = some e) (hhp : ∀ id ∈ e.rd, σ'.hp id = σ.hp id) (hlive : ∀ x ∈ e.live, σ'.live x.1 = σ.live x.1) : effX P cs σ' p o k = some e := by
  unfold effX at he ⊢
  split at he
  · unfold xLoad at he ⊢
    split at he
    · rename_i t x ho
      try simp only [ho]
      rw [hs x (by rw [ho]; simp [Op.operands])]
      split at he
      · cases he
      · rename_i hc
        rw [if_neg hc]
        split at he
        · rename_i g i u off hx
          try simp only [hx]
          split at he
          · rename_i e1 T hlx
            simp only [Option.map_eq_some_iff] at he
            obtain ⟨s, h1, rfl⟩ := he
            rw [liveX_congr (hlive _ (List.mem_singleton.2 rfl)), hlx]
            simp only [h1, Option.map_some]
          · cases he
        · cases he
    · cases he
  · unfold xStore at he ⊢
    split at he
    · rename_i t x y ho
      try simp only [ho]
      rw [hs x (by rw [ho]; simp [Op.operands]), hs y (by rw [ho]; simp [Op.operands])]
      split at he
      · rename_i g i u off es ts n h1 h2 h3
        try simp only [h1, h2, h3]
        split at he
        · rename_i e1 T hlx
          split at he
          · rename_i hc
            simp only [Option.map_eq_some_iff] at he
            obtain ⟨s, h4, rfl⟩ := he
            rw [liveX_congr (hlive _ (List.mem_singleton.2 rfl)), hlx]
            simp only [if_pos hc, h4, Option.map_some]
          · cases he
        · cases he
      · cases he
    · cases he
  · unfold xLen at he ⊢
    split at he
    · rename_i args argTypes ho
      try simp only [ho]
      split at he
      · rename_i x t hl ht
        try simp only [hl, ht]
        have m1 : x ∈ o.op.operands.toList := by rw [ho]; simp [Op.operands, Call.operands]; have : x ∈ args.toList := by rw [hl]; simp
                                                 simpa using this
        rw [hs x m1]
        split at he
        · rename_i g u hu hx
          try simp only [hu, hx]
          split at he
          · rename_i e1 T hlx
            injection he with he; subst he
            rw [liveX_congr (hlive _ (List.mem_singleton.2 rfl)), hlx]
          · cases he
        · cases he
      · cases he
    · cases he
  · unfold xIndex at he ⊢
    split at he
    · rename_i t x i ho
      try simp only [ho]
      rw [hs x (by rw [ho]; simp [Op.operands]), hs.d (x := i) (by rw [ho]; simp [Op.operands])]
      split at he
      · rename_i g u ie k hu hx hi
        try simp only [hu, hx, hi]
        split at he
        · rename_i e1 T hlx
          split at he
          · rename_i hc
            injection he with he; subst he
            rw [liveX_congr (hlive _ (List.mem_singleton.2 rfl)), hlx]
            exact if_pos hc
          · cases he
        · cases he
      · cases he
    · cases he
  · unfold xAppend at he ⊢
    split at he
    · rename_i g e1 e2 T t b ha
      injection he with he; subst he
      have hlv : ∀ g', g = some g' → σ'.live g' = σ.live g' := by
        rintro g' rfl
        exact hlive (g', none) (by simp)
      have : opAppX P σ' o = some (g, e1, e2, T, t, b) := by
        unfold opAppX at ha ⊢
        split at ha
        · rename_i args argTypes ho
          try simp only [ho]
          split at ha
          · rename_i s x tt tt' hargs hats
            try simp only [hargs, hats]
            have m1 : s ∈ o.op.operands.toList := by rw [ho]; simp [Op.operands, Call.operands]; have : s ∈ args.toList := by rw [hargs]; simp
                                                     simpa using this
            have m2 : x ∈ o.op.operands.toList := by rw [ho]; simp [Op.operands, Call.operands]; have : x ∈ args.toList := by rw [hargs]; simp
                                                     simpa using this
            rw [hs s m1, hs.d m2]
            split at ha
            · rename_i el sv ex u hu hsv hx
              try simp only [hu, hsv, hx]
              split at ha
              · rename_i ie u' hie hu'
                try simp only [hie, hu']
                split at ha
                · rename_i hc
                  rw [if_pos hc]
                  split at ha
                  · exact ha
                  · rename_i g0 v
                    split at ha
                    · rename_i e1' T' hlx
                      split at ha
                      · rename_i hc2
                        injection ha with ha; simp only [Prod.mk.injEq] at ha; obtain ⟨rfl, rfl, rfl, rfl, rfl, rfl⟩ := ha
                        try simp only []
                        rw [liveX_congr (hlv g0 rfl), hlx]
                        simp only [hc2, and_self, if_true]
                      · cases ha
                    · cases ha
                  · cases ha
                · cases ha
              · cases ha
            · cases ha
          · cases ha
        · cases ha
      rw [this]
    · cases he
  · unfold xLit at he ⊢
    have : opLit P σ' [] o = opLit P σ [] o := by
      unfold opLit
      split
      · rename_i t len parts ho
        have h1 := fun hint => partsSC_congr (P := P) (σ := σ) (σ' := σ') (pc := []) hint (xs := parts.toList) (by rw [ho] at hs; simpa [Op.operands] using hs)
        simp only [h1]
      · rfl
    rw [this]; exact he
  · split at he
    · rename_i hi
      rw [if_pos hi]
      exact eatCall_congr hs he hhp hlive
    rename_i hi
    rw [if_neg hi]
    unfold xCall at he ⊢
    split at he
    · rename_i f args argTypes ho
      try simp only [ho]
      rw [hs f (by rw [ho]; simp [Op.operands, Call.operands])]
      split at he
      · rename_i fe k' es l hf hes
        split at he
        · rename_i sig hsig
          split at he
          · rename_i hc
            injection he with he; subst he
            rw [argsX_congr (fun x hx => hs x (by rw [ho]; simp [Op.operands, Call.operands]; right; simpa using hx)) hes (fun z hz => hlive z (List.mem_append_left _ hz))]
            simp only [hf, hsig]
            exact if_pos hc
          · cases he
        · cases he
      · cases he
    · cases he

theorem effOp_congr {cs : Tbl} {ops : Array Oper} {p : Nat} {e : Eff} (he : effOp P cs ops σ p o = some e) (htm : ∀ t, t ∈ o.looksAt ops → σ'.tm t = σ.tm t) (hhp : ∀ id ∈ e.rd, σ'.hp id = σ.hp id)
    (hlive : ∀ x ∈ e.live, σ'.live x.1 = σ.live x.1) : effOp P cs ops σ' p o = some e := by
  have hs : SameOn P σ σ' o.op.operands.toList := sameOn_of fun t ht => htm t (by
    unfold Oper.looksAt
    exact List.mem_append_left _ (List.mem_filterMap.2 ⟨.tmp t, ht, rfl⟩))
  unfold effOp at he ⊢
  rw [xKind_congr hs]
  split at he
  · exact effX_congr hs he hhp hlive
  · rw [guardOf_congr htm]
    split at he
    · rename_i pc hg
      try simp only [hg]
      rw [xKindG_congr hs]
      split at he
      · rename_i hk
        rw [if_pos hk]
        exact xCallG_congr hs he hlive
      · rename_i hk
        rw [if_neg hk]
        exact effOp0_congr he htm hhp (fun x hx _ => hlive x hx)
    · cases he
  · exact effOp0_congr he htm hhp (fun x hx _ => hlive x hx)

theorem litSCs_congr (hs : SameOn P σ σ' o.op.operands.toList) : litSCs P σ' pc o = litSCs P σ pc o := by
  unfold litSCs
  split
  · rename_i t len parts ho
    have h1 := fun hint => partsSC_congr (P := P) (σ := σ) (σ' := σ') (pc := pc) hint (xs := parts.toList) (by rw [ho] at hs; simpa [Op.operands] using hs)
    simp only [h1]
  · rfl
theorem frOk_congr {cs : Tbl} (hs : SameOn P σ σ' o.op.operands.toList) : frOk P cs σ' pc o = frOk P cs σ pc o := by
  unfold frOk
  split
  · rename_i f args argTypes ho
    rw [hs f (by rw [ho]; simp [Op.operands, Call.operands])]
  · rename_i args argTypes ho
    split
    · rename_i x y _ t hl ht
      have m1 : x ∈ o.op.operands.toList := by rw [ho]; simp [Op.operands, Call.operands]; have : x ∈ args.toList := by rw [hl]; simp
                                               simpa using this
      have m2 : y ∈ o.op.operands.toList := by rw [ho]; simp [Op.operands, Call.operands]; have : y ∈ args.toList := by rw [hl]; simp
                                               simpa using this
      rw [hs x m1, hs y m2]
    · rfl
  · rw [litSCs_congr hs]
  · rfl
theorem effOpF_congr {cs : Tbl} {ops : Array Oper} {p : Nat} {e : Eff} (he : effOpF P cs ops σ p o = some e) (htm : ∀ t, t ∈ o.looksAt ops → σ'.tm t = σ.tm t) (hhp : ∀ id ∈ e.rd, σ'.hp id = σ.hp id)
    (hlive : ∀ x ∈ e.live, σ'.live x.1 = σ.live x.1) : effOpF P cs ops σ' p o = some e := by
  have hs : SameOn P σ σ' o.op.operands.toList := sameOn_of fun t ht => htm t (by
    unfold Oper.looksAt
    exact List.mem_append_left _ (List.mem_filterMap.2 ⟨.tmp t, ht, rfl⟩))
  unfold effOpF at he ⊢
  split at he
  · rename_i hf
    exact effOp_congr he htm hhp hlive
  · rename_i hf
    rw [guardOf_congr htm]
    split at he
    · rename_i pc hg
      try simp only [hg]
      rw [frOk_congr hs]
      split at he
      · rename_i hk
        rw [if_pos hk]
        exact effOp0_congr he htm hhp (fun x hx _ => hlive x hx)
      · cases he
    · cases he
  · split at he
    · rename_i hk
      rw [if_pos hk]
      exact effOp0_congr he htm hhp (fun x hx _ => hlive x hx)
    · cases he

theorem opSigOf_congr {cs : Tbl} (hs : SameOn P σ σ' o.op.operands.toList) : opSigOf P cs σ' o = opSigOf P cs σ o := by
  unfold opSigOf
  split
  · rename_i f args argTypes ho
    rw [hs f (by rw [ho]; simp [Op.operands, Call.operands])]
  · rfl
theorem effOpD_congr {d : Option Bool} {cs : Tbl} {ops : Array Oper} {p : Nat} {e : Eff} (he : effOpD d P cs ops σ p o = some e) (htm : ∀ t, t ∈ o.looksAt ops → σ'.tm t = σ.tm t) (hhp : ∀ id ∈ e.rd, σ'.hp id = σ.hp id)
    (hlive : ∀ x ∈ e.live, σ'.live x.1 = σ.live x.1) : effOpD d P cs ops σ' p o = some e := by
  have hs : SameOn P σ σ' o.op.operands.toList := sameOn_of fun t ht => htm t (by
    unfold Oper.looksAt
    exact List.mem_append_left _ (List.mem_filterMap.2 ⟨.tmp t, ht, rfl⟩))
  unfold effOpD at he ⊢
  split at he
  · exact effOpF_congr he htm hhp hlive
  · split at he
    · cases he
    · rename_i hf
      rw [if_neg hf, guardOf_congr htm]
      split at he
      · rename_i pc hg
        split at he
        · rename_i x hx
          injection he with he; subst he
          have : opOCall P cs σ' pc o = some x := by
            refine opOCall_congr hs hx hhp (fun j g hm => hlive (g, none) ?_)
            exact List.mem_append_left _ (List.mem_append_left _ (List.mem_filterMap.2 ⟨(j, some g), hm, rfl⟩))
          simp only [this]
        · cases he
      · cases he
  · rw [guardOf_congr htm, opSigOf_congr hs]
    exact he

end
end Go.Eng
