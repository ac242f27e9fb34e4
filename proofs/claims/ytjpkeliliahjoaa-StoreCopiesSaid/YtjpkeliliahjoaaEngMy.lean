/-
  Slices of their own kind: made, grown, handed to calls.
-/
import Derived.Test.YtjpkeliliahjoaaEngMx
namespace Go.Eng
open Go Go.RowKit

section
variable {P : Program} {C : Cx} {w w0 : World} {S0 : Base} {G : Gh} {σ : St} {a : Act} {o : Oper} {pc : Cond} {s : SV} {is : List Item} {Φ : Nat → List D → D} {Pre : Nat → List D → Prop} {n p : Nat} {cs : Tbl}

theorem stepped_appX {ops : Array Oper} {g : Option Tag} {e1 e2 : E} {T : TypeId} {t : Ty} {b : Nat} (hs : Sim n w0 S0 C G σ a w) (hp : ¬ C.M p) (hg : guardOf ops σ o = some [])
    (h : opAppX P σ o = some (g, e1, e2, T, t, b)) (hit : ItemOk C Φ Pre (.room [] (.bin .cat e1 e2) b)) (hdst : ∀ d, o.dst = some d → d < n) (items : List Item) (hnf : ¬ S0.fr) (hnw : ¬ S0.wz) :
    Stepped1 P n w0 S0 C ((⟨o.dst, ([], .one (.xo (p, 1000) t)), [], (match g with | some g => [(g, none)] | none => []) ++ [((p, 1000), some (.bin .cat e1 e2, T, t))], [], items⟩ : Eff).app σ) p ops a w o := by
  intro K Q hK
  obtain ⟨hw, hc⟩ := guardOf_ok hs.t hg
  rw [hw]
  simp only [condB, List.all_nil, if_true]
  unfold opAppX at h
  split at h
  · rename_i args argTypes ho
    split at h
    · rename_i sx x tt tt' hargs hats
      split at h
      · rename_i el sv ex u hu hsv hx
        split at h
        · rename_i ie u' hie hu'
          split at h
          · rename_i hcnd
            obtain ⟨rfl, rfl, hwid, hpos, hscal, hzero, hbyt⟩ := hcnd
            obtain ⟨y1, y2, y3⟩ := getD_ok hs.t (pc := []) rfl hx
            obtain ⟨l2, hl2, hl2m, hall2⟩ := has_list.1 y3
            have hk2 : ∀ d ∈ l2, d.cells.length = u.cells.length := fun d hd => (has_cells (hall2 d hd)).1
            obtain ⟨A, c, news, hxv, hA, hnl, hnc, hnr⟩ := (hl2 ▸ y2).source hk2
            obtain ⟨z, hz, hzs⟩ : ∃ z, ie.zero = some z ∧ z.cells.size = ie.size := by
              cases hq : ie.zero with
              | none => simp [hq] at hzero
              | some z => exact ⟨z, rfl, by simpa [hq] using hzero⟩
            -- all that is asked of the slice that is appended to
            have main : ∀ (v : Value) (e1' : E) (g' : Option Tag), a.eval sx = v → e1'.lt C.N = true → (∃ l1 xs, den C.ρ e1' = .list l1 ∧ (∀ d ∈ l1, Has u d) ∧ w.ownsRow 0 el u.cells.length v l1.length xs ∧
                (∀ (i : Nat) d (j : Nat) u' c, l1[i]? = some d → d.cells[j]? = some c → xs[i * u.cells.length + j]? = some u' → Rep w G.S u' c) ∧
                (v = .slice none 0 0 ∧ g' = none ∨ ∃ g x, g' = some g ∧ σ.live g = some x ∧ G.τ g = v ∧ ∀ b, v.ownBlock = some b → (∀ o, G.S b o ↔ Tag.ex (p, 1000) = false ∧ o < xs.length))) →
                ItemOk C Φ Pre (.room [] (.bin .cat e1' ex) ie.bytes) →
                (∀ a' w' G', Sim n w0 S0 (C.add p) G' ((⟨o.dst, ([], .one (.xo (p, 1000) u)), [], (match g' with | some g => [(g, none)] | none => []) ++ [((p, 1000), some (.bin .cat e1' ex, el, u))], [], items⟩ : Eff).app σ) a' w' → K a' w') →
                o.wp P a w K Q := by
              rintro v e1' g' hv he1 ⟨l1, xs, hl1, hall1, hown, hxr, hold⟩ hroom hK
              have hden : den C.ρ (.bin .cat e1' ex) = .list (l1 ++ l2) := by simp only [den, B.den, hl1, hl2, D.toL]
              obtain ⟨hr0, hr1⟩ := hroom
              have hr2 := hr1 rfl
              rw [hden] at hr2
              simp only [D.toL, List.length_append] at hr2
              have hone : ∀ w ∈ news, w.oneCell' = true := by
                intro uu huu
                obtain ⟨q, hq⟩ := List.getElem?_of_mem huu
                have hql : q < news.length := (List.getElem?_eq_some_iff.1 hq).1
                have hwp : 0 < u.cells.length := by omega
                have hi : q / u.cells.length < l2.length := by rw [Nat.div_lt_iff_lt_mul hwp, ← hnl]; exact hql
                have hj : q % u.cells.length < u.cells.length := Nat.mod_lt _ hwp
                have hd : l2[q / u.cells.length]? = some (l2[q / u.cells.length]'hi) := List.getElem?_eq_getElem hi
                have hty : u.cells[q % u.cells.length]? = some (u.cells[q % u.cells.length]'hj) := List.getElem?_eq_getElem hj
                obtain ⟨cc, hcc, hcc2⟩ := (has_cells (hall2 _ (List.mem_of_getElem? hd))).2 _ _ hty
                have hqq : q / u.cells.length * u.cells.length + q % u.cells.length = q := by rw [Nat.mul_comm]; exact Nat.div_add_mod _ _
                exact (hnr _ _ _ uu cc hd hcc (by rw [hqq]; exact hq)).oneCell hcc2 (List.all_eq_true.1 hscal _ (List.getElem_mem hj))
              obtain ⟨v', w', hrun, hown', hcase⟩ := run_append_cases (P := P) w 0 tt o.type el ie z u.cells.length hu hie hz hwid.symm (by rw [hzs, hwid]) v l1.length xs hown A l2.length c news hA hnl hnc hone hr2.1 hr2.2 (Nat.zero_le _)
              have hexec : (execOp a.eval o).run P w = .ok (.value v') w' := by
                have ha1 : args = #[sx, x] := by apply Array.ext'; simpa using hargs
                have ha2 : argTypes = #[tt, tt] := by apply Array.ext'; simpa using hats
                unfold execOp; simp only [ho, resolve, invoke, builtin, ha1, ha2]
                simp [hv, hxv, hrun]
              unfold Oper.wp
              rw [hexec]
              have hgp : ∀ g, g' = some g → g ≠ (p, 1000) := by
                intro g hgg he
                rcases hold with ⟨_, h2⟩ | ⟨g0, x0, h2, h3, _⟩
                · rw [h2] at hgg; cases hgg
                · rw [h2] at hgg; injection hgg with hgg; subst hgg; subst he
                  exact not_M_live hs.m hp h3 rfl
              obtain ⟨G', hlat, hm, hτ⟩ := hs.m.appended hp 1000 (v := v) (v' := v') (T := el) (t := u) (n := l1.length) (m := l2.length) (xs := xs) (news := news) (l := l1) (l2 := l2) (e2 := .bin .cat e1' ex)
                (by omega) rfl rfl hxr hnr (fun d hd => (has_cells (hall1 d hd)).1) hown.1 hown' hcase (updL σ.live ((match g' with | some g => [(g, none)] | none => []) ++ [((p, 1000), some (.bin .cat e1' ex, el, u))]))
                (by
                  rcases hold with ⟨h1, _⟩ | ⟨g0, x0, h2, h3, h4, h5⟩
                  · exact .inl h1
                  · refine .inr ⟨g0, x0, h3, h4, ?_, fun b hb => ⟨h5 b hb, fun o' u' ho' => ?_⟩⟩
                    · rw [h2]; simp [updL, lk]
                    · have := hown.cells (g := b) hb o' u' ho'
                      rw [addr_add, Nat.zero_add] at this; exact this)
                (by simp [E.lt, he1, y1]) hden (by rw [hden]; exact has_list.2 ⟨_, rfl, ⟨by simpa using hr2.1, by rw [← hbyt]; simpa using hr2.2⟩, fun d hd => by rcases List.mem_append.1 hd with h | h; exact hall1 d h; exact hall2 d h⟩)
                (by
                  intro g0 x0 hx0
                  unfold updL at hx0
                  cases g' with
                  | none =>
                    simp only [List.nil_append, lk] at hx0
                    by_cases he : g0 = (p, 1000)
                    · rw [if_pos he] at hx0; simp only [Option.some.injEq] at hx0; exact .inr ⟨he, hx0.symm⟩
                    · rw [if_neg he] at hx0; exact .inl ⟨he, hx0⟩
                  | some g1 =>
                    simp only [List.cons_append, List.nil_append, lk] at hx0
                    by_cases he1 : g0 = g1
                    · rw [if_pos he1] at hx0; cases hx0
                    · rw [if_neg he1] at hx0
                      by_cases he : g0 = (p, 1000)
                      · rw [if_pos he] at hx0; simp only [Option.some.injEq] at hx0; exact .inr ⟨he, hx0.symm⟩
                      · rw [if_neg he] at hx0; exact .inl ⟨he, hx0⟩)
                (fun hff => absurd hff hnf) hnw
              have hown2 := hm.own (p, 1000) (.bin .cat e1' ex) el u (by
                show updL σ.live _ (p, 1000) = _
                unfold updL
                cases g' with
                | none => simp [lk]
                | some g1 => simp [lk, Ne.symm (hgp g1 rfl)])
              exact hK _ _ _ (hs.step (o := o) (e := ⟨o.dst, ([], .one (.xo (p, 1000) u)), [], (match g' with | some g => [(g, none)] | none => []) ++ [((p, 1000), some (.bin .cat e1' ex, el, u))], [], items⟩) hlat (hm.congr (updL_nil _) rfl) rfl
                (rfl) (by simp)
                (by
                  intro _
                  simp only [condB, List.all_nil, if_true]
                  refine ⟨.inr rfl, hτ.symm, ?_⟩
                  rcases hown'.2 with ⟨hv, _⟩ | ⟨b, cap, cur, hv, _⟩
                  · exact ⟨_, _, _, hv⟩
                  · exact ⟨_, _, _, hv⟩) hdst)
            split at h
            · rename_i v
              split at h
              · rename_i hvu
                injection h with h; simp only [Prod.mk.injEq] at h; obtain ⟨rfl, rfl, rfl, rfl, rfl, rfl⟩ := h
                have hv := getV_ok hs.t (pc := []) rfl hsv
                refine main (.slice none 0 0) .nil none hv rfl ⟨[], [], rfl, by simp, World.ownsRow_nil w _ _ _, by simp, .inl ⟨rfl, rfl⟩⟩ hit hK
              · cases h
            · rename_i g0 v
              split at h
              · rename_i e1' T' hlx
                split at h
                · rename_i hcnd2
                  obtain ⟨rfl, rfl⟩ := hcnd2
                  obtain ⟨hlive, hge, _⟩ := liveX_ok hlx
                  injection h with h; simp only [Prod.mk.injEq] at h; obtain ⟨rfl, rfl, rfl, rfl, rfl, rfl⟩ := h
                  have hv := getV_ok hs.t (pc := []) rfl hsv
                  have hok := hs.m.own _ _ _ _ hlive
                  obtain ⟨xs, l1, hl1, hown, hfoot, hr⟩ := hok.own
                  have hh := hok.has
                  rw [hl1] at hh
                  obtain ⟨l1', hl1', _, hall1⟩ := has_list.1 hh
                  injection hl1' with hl1'; subst hl1'
                  exact main (G.τ g0) e1' (some g0) hv.2.1 hok.lt ⟨l1, xs, hl1, hall1, hown, hr, .inr ⟨g0, _, rfl, hlive, rfl, fun b hb o => (hfoot b hb o).trans (by rw [hge]; rfl)⟩⟩ hit hK
                · cases h
              · cases h
            · cases h
          · cases h
        · cases h
      · cases h
    · cases h
  · cases h


/-- An owned slice's reading, where its cells may be leaned on. -/
theorem OwnOk.repX {base : Nat} {g : Tag} {e : E} {T : TypeId} {t : Ty} (h : OwnOk C w base G g e T t) (hsz : 0 < t.cells.length) {S' : Foot} (hS0 : ∀ b o, G.S b o → S' b o) (hS' : ∀ b o, (G.τ g).ownBlock = some b → S' b o) : Rep w S' (G.τ g) (den C.ρ e) := by
  obtain ⟨xs, l, hd, hown, hS, hr⟩ := h.own
  rw [hd]
  obtain ⟨hl, hh⟩ := hown
  rcases hh with ⟨hv, hn⟩ | ⟨b, cap, cur, hv, hb, hg, hnc, hcm, hcs, htake⟩
  · have : l = [] := List.eq_nil_of_length_eq_zero hn
    subst this
    rw [hv]; exact .nil none 0
  · have hhas := h.has
    rw [hd] at hhas
    obtain ⟨l', hl', _, hx⟩ := has_list.1 hhas
    injection hl' with hl'; subst hl'
    by_cases hne : l = []
    · subst hne; rw [hv]; exact .nil _ cap
    · rw [hv]
      refine .list b 0 cap t.cells.length xs l hsz hne hnc hl (fun i hi => ?_) (fun i v hi => ?_) (fun i d hd' => ?_) (fun i d j v c h1 h2 h3 => (hr i d j v c h1 h2 h3).keep hS0 (fun _ _ _ => rfl))
      · exact hS' b _ (by rw [hv]; rfl)
      · rw [Nat.zero_add, cell_of_row w b i cur T (0, 0) hg]
        rw [← htake, List.getElem?_take] at hi
        split at hi
        · simpa using hi
        · cases hi
      · exact (has_cells (hx d (List.mem_of_getElem? hd'))).1

/-- All that readings may lean on, and all owned slices. -/
def footX (G : Gh) (σ : St) : Foot := fun b o => G.S b o ∨ ∃ g x, σ.live g = some x ∧ (G.τ g).ownBlock = some b

theorem asDataX_ok (hm : SimM w0 S0 C G σ w) {c : SC} {e : E} {t : Ty} {l : List (Tag × Option (E × TypeId × Ty))} {v : Value} (h : asDataX σ c = some ((e, t), l)) (hr : RSC C w G c v) :
    (e.lt C.N = true ∧ Rep w (footX G σ) v (den C.ρ e) ∧ Has t (den C.ρ e)) ∧ ∀ y ∈ l, σ.live y.1 = y.2 ∧ y.2.isSome = true := by
  have plain : (asData c).map (fun x => (x, ([] : List (Tag × Option (E × TypeId × Ty))))) = some ((e, t), l) → (e.lt C.N = true ∧ Rep w (footX G σ) v (den C.ρ e) ∧ Has t (den C.ρ e)) ∧ ∀ y ∈ l, σ.live y.1 = y.2 ∧ y.2.isSome = true := by
    intro h
    simp only [Option.map_eq_some_iff, Prod.mk.injEq] at h
    obtain ⟨x, hx, rfl, rfl⟩ := h
    obtain ⟨h1, h2, h3⟩ := asData_ok hx hr
    exact ⟨⟨h1, h2.keep (fun _ _ h => .inl h) (fun _ _ _ => rfl), h3⟩, by simp⟩
  cases c with
  | xo g t' =>
    simp only [asDataX] at h
    split at h
    · rename_i e' T hlx
      injection h with h; simp only [Prod.mk.injEq] at h; obtain ⟨⟨rfl, rfl⟩, rfl⟩ := h
      obtain ⟨hl, _, hpos⟩ := liveX_ok hlx
      have hok := hm.own _ _ _ _ hl
      refine ⟨⟨hok.lt, ?_, hok.has⟩, ?_⟩
      · rw [hr.2.1]
        exact hok.repX hpos (fun _ _ h => .inl h) (fun b o hb => .inr ⟨g, _, hl, hb⟩)
      · intro y hy
        simp only [List.mem_singleton] at hy; subst hy
        exact ⟨hl, rfl⟩
    · cases h
  | _ => exact plain h

theorem asDatasX_ok (hm : SimM w0 S0 C G σ w) : ∀ {cl : List SC} {es : List E} {ts : List Ty} {l : List (Tag × Option (E × TypeId × Ty))} {vs : List Value}, asDatasX σ cl = some ((es, ts), l) → RSCs C w G cl vs →
    ((E.ofL es).lt C.N = true ∧ es.length = vs.length ∧ (∀ (i : Nat) v e, vs[i]? = some v → es[i]? = some e → Rep w (footX G σ) v (den C.ρ e)) ∧ HasL (.ofL ts) (es.map (den C.ρ))) ∧ ∀ y ∈ l, σ.live y.1 = y.2 ∧ y.2.isSome = true
  | [], es, ts, l, vs, h, hr => by
    simp only [asDatasX, Option.some.injEq, Prod.mk.injEq] at h
    obtain ⟨⟨rfl, rfl⟩, rfl⟩ := h
    have hv : vs = [] := List.eq_nil_of_length_eq_zero hr.1
    subst hv
    exact ⟨⟨rfl, rfl, by intro i v e hi; simp at hi, has_nil.2 rfl⟩, by simp⟩
  | c :: cl, es, ts, l, vs, h, hr => by
    simp only [asDatasX] at h
    split at h
    · rename_i e t l1 es' ts' ls h1 h2
      injection h with h; simp only [Prod.mk.injEq] at h; obtain ⟨⟨rfl, rfl⟩, rfl⟩ := h
      cases vs with
      | nil => have := hr.1; simp at this
      | cons v vs =>
        have hr' : RSCs C w G cl vs := ⟨by simpa using hr.1, fun i c v hi hv => hr.2 (i + 1) c v (by simpa using hi) (by simpa using hv)⟩
        obtain ⟨⟨k1, k2, k4, k5⟩, k6⟩ := asDatasX_ok hm h2 hr'
        obtain ⟨⟨m1, m2, m3⟩, m6⟩ := asDataX_ok hm h1 (hr.2 0 c v rfl rfl)
        refine ⟨⟨by simp [E.ofL, E.lt, m1, k1], by simp [k2], ?_, has_cons.2 ⟨_, _, rfl, m3, k5⟩⟩, fun y hy => ?_⟩
        · intro i u e' hi he
          cases i with
          | zero => simp at hi he; subst hi; subst he; exact m2
          | succ i => exact k4 i u e' (by simpa using hi) (by simpa using he)
        · rcases List.mem_append.1 hy with hy | hy
          · exact m6 y hy
          · exact k6 y hy
    · cases h

theorem asDataVX_ok (hm : SimM w0 S0 C G σ w) {s : SV} {e : E} {t : Ty} {l : List (Tag × Option (E × TypeId × Ty))} {v : Value} (h : asDataVX σ s = some ((e, t), l)) (hr : RSV C w G s v) :
    (e.lt C.N = true ∧ Rep w (footX G σ) v (den C.ρ e) ∧ Has t (den C.ρ e)) ∧ ∀ y ∈ l, σ.live y.1 = y.2 ∧ y.2.isSome = true := by
  cases s with
  | one c => exact asDataX_ok hm h hr
  | agg cl =>
    simp only [asDataVX] at h
    split at h
    · rename_i es ts ls h1
      injection h with h; simp only [Prod.mk.injEq] at h; obtain ⟨⟨rfl, rfl⟩, rfl⟩ := h
      obtain ⟨vs, rfl, hs⟩ := hr
      obtain ⟨⟨k1, k2, k4, k5⟩, k6⟩ := asDatasX_ok hm h1 hs
      refine ⟨⟨by simpa [E.lt] using k1, ?_, ?_⟩, k6⟩
      · simp only [den, den_ofL, U.den, D.toL]
        refine .agg vs _ (by simp [k2]) fun i v d hi hd => ?_
        simp only [List.getElem?_map, Option.map_eq_some_iff] at hd
        obtain ⟨e, he, rfl⟩ := hd
        exact k4 i v e hi he
      · simp only [den, den_ofL, U.den, D.toL]
        exact has_agg.2 ⟨_, rfl, k5⟩
    · cases h
  | tup l => cases h

theorem argsX_ok (hm : SimM w0 S0 C G σ w) (ht : SimT C w G σ.tm a) {pc : Cond} (hpc : condB C.ρ pc = true) : ∀ {xs : List Operand} {tys : List TypeId} {es : List (E × Ty)} {l : List (Tag × Option (E × TypeId × Ty))}, argsX P σ pc xs tys = some (es, l) →
    (es.length = xs.length ∧ ∀ (i : Nat) x e, xs[i]? = some x → es[i]? = some e → e.1.lt C.N = true ∧ Rep w (footX G σ) (a.eval x) (den C.ρ e.1) ∧ Has e.2 (den C.ρ e.1)) ∧ ∀ y ∈ l, σ.live y.1 = y.2 ∧ y.2.isSome = true
  | [], [], es, l, h => by
    simp only [argsX, Option.some.injEq, Prod.mk.injEq] at h
    obtain ⟨rfl, rfl⟩ := h
    exact ⟨⟨rfl, by intro i x e hi; simp at hi⟩, by simp⟩
  | x :: xs, t :: ts, es, l, h => by
    simp only [argsX] at h
    split at h
    · rename_i e l1 es' ls h1 h2
      injection h with h; simp only [Prod.mk.injEq] at h; obtain ⟨rfl, rfl⟩ := h
      obtain ⟨⟨k1, k2⟩, k3⟩ := argsX_ok hm ht hpc h2
      rw [Option.bind_eq_some_iff] at h1
      obtain ⟨sv, hsv, h1⟩ := h1
      obtain ⟨m1, m2⟩ := asDataVX_ok hm (e := e.1) (t := e.2) h1 (getV_ok ht hpc hsv)
      refine ⟨⟨by simp [k1], fun i x' e' hi he => ?_⟩, fun y hy => ?_⟩
      · cases i with
        | zero => simp at hi he; subst hi; subst he; exact m1
        | succ i => exact k2 i x' e' (by simpa using hi) (by simpa using he)
      · rcases List.mem_append.1 hy with hy | hy
        · exact m2 y hy
        · exact k3 y hy
    · cases h
  | [], _ :: _, _, _, h => by cases h
  | _ :: _, [], _, _, h => by cases h

theorem Rep.bare {S S' : Foot} {v : Value} {d : D} {t : Ty} (h : Rep w S v d) (ht : Has t d) (hb : t.bare = true) : Rep w S' v d := by
  cases t <;> first | (cases hb; done) | skip
  · obtain ⟨n, rfl, _⟩ := has_int.1 ht; rw [h.inv_int]; exact .int _ _
  · obtain ⟨n, rfl⟩ := has_bool.1 ht; rw [h.inv_bool]; exact .bool _
  · obtain ⟨n, rfl⟩ := has_str.1 ht; rw [h.inv_str]; exact .str _

theorem CellOk.bare {w' : World} {S S' : Foot} {τ : Nat → Value} {c : RCell} {v : Value} {d : D} (h : CellOk w' 0 S τ c v d) (hb : c.bare = true) (hS : ∀ j T, c.2 = some (j, T) → ∀ b, (τ j).ownBlock = some b → ∀ o, S' b o ↔ S b o) : CellOk w' 0 S' τ c v d := by
  obtain ⟨t, _ | ⟨j, T⟩⟩ := c
  · exact ⟨h.1.bare h.2 hb, h.2⟩
  · obtain ⟨rfl, ⟨h1, h2, xs, l, h3, h4, h5, h6⟩⟩ := h
    refine ⟨rfl, h1, h2, xs, l, h3, h4, fun b hbb o => (hS j T rfl b hbb o).trans (h5 b hbb o), fun i d j' v c hi hj hv => ?_⟩
    rw [h3] at h1
    obtain ⟨l', hl', _, hall⟩ := has_list.1 h1
    injection hl' with hl'; subst hl'
    obtain ⟨q1, q2⟩ := has_cells (hall d (List.mem_of_getElem? hi))
    have hjl : j' < t.cells.length := by rw [← q1]; exact (List.getElem?_eq_some_iff.1 hj).1
    obtain ⟨c', hc', hcc⟩ := q2 j' _ (List.getElem?_eq_getElem hjl)
    rw [hj] at hc'; injection hc' with hc'; subst hc'
    exact (h6 i d j' v c hi hj hv).bare hcc (List.all_eq_true.1 hb _ (List.getElem_mem hjl))

theorem ResOk.bare {w' : World} {S S' : Foot} {τ : Nat → Value} {res : List (Bool × List RCell)} {v : Value} {d : D} (h : ResOk w' 0 S τ res v d) (hb : (res.all fun c => c.2.all RCell.bare) = true)
    (hS : ∀ j b, j ∈ ownIdx res → (τ j).ownBlock = some b → ∀ o, S' b o ↔ S b o) : ResOk w' 0 S' τ res v d := by
  have hidx : ∀ c ∈ res, ∀ y ∈ c.2, ∀ j T, y.2 = some (j, T) → j ∈ ownIdx res := by
    intro c hc y hy j T hj
    unfold ownIdx
    exact List.mem_flatMap.2 ⟨c, hc, List.mem_filterMap.2 ⟨y, hy, by rw [hj]; rfl⟩⟩
  have comp : ∀ c ∈ res, ∀ v d, CompOk w' 0 S τ c v d → CompOk w' 0 S' τ c v d := by
    intro c hc v d h
    have hbc := List.all_eq_true.1 hb c hc
    unfold CompOk at h ⊢
    split
    · rename_i hc1
      rw [if_pos hc1] at h
      obtain ⟨vs, ds, h1, h2, h3, h4, h5⟩ := h
      refine ⟨vs, ds, h1, h2, h3, h4, fun i x u y hx hu hy => ?_⟩
      have hxm := List.mem_of_getElem? hx
      exact (h5 i x u y hx hu hy).bare (List.all_eq_true.1 hbc x hxm) (fun j T hj b hb' o => hS j b (hidx c hc x hxm j T hj) hb' o)
    · rename_i hc1
      rw [if_neg hc1] at h
      obtain ⟨x, hx, h5⟩ := h
      have hxm : x ∈ c.2 := by rw [hx]; simp
      exact ⟨x, hx, h5.bare (List.all_eq_true.1 hbc x hxm) (fun j T hj b hb' o => hS j b (hidx c hc x hxm j T hj) hb' o)⟩
  rcases h with ⟨c, rfl, h⟩ | ⟨hne, vs, ds, h1, h2, h3, h4, h5⟩
  · exact .inl ⟨c, rfl, comp c (by simp) v d h⟩
  · exact .inr ⟨hne, vs, ds, h1, h2, h3, h4, fun i x u y hx hu hy => comp x (List.mem_of_getElem? hx) u y (h5 i x u y hx hu hy)⟩

theorem lk_append {α β : Type} [DecidableEq α] : ∀ (l r : List (α × β)) (x : α), lk (l ++ r) x = match lk l x with | some v => some v | none => lk r x
  | [], r, x => rfl
  | (k, v) :: l, r, x => by
    simp only [List.cons_append, lk]
    split
    · rfl
    · exact lk_append l r x
theorem updL_marks {l r : List (Tag × Option (E × TypeId × Ty))} (hl : ∀ y ∈ l, σ.live y.1 = y.2) (hp : ∀ y ∈ l, ∀ z ∈ r, y.1 ≠ z.1) : updL σ.live (l ++ r) = updL σ.live r := by
  funext g
  unfold updL
  rw [lk_append]
  cases h : lk l g with
  | none => rfl
  | some v =>
    have hm := lk_mem h
    have hn : lk r g = none := by
      cases hr : lk r g with
      | none => rfl
      | some u => exact absurd (show ((g, v) : Tag × Option (E × TypeId × Ty)).1 = ((g, u) : Tag × Option (E × TypeId × Ty)).1 from rfl) (hp (g, v) hm (g, u) (lk_mem hr))
    rw [hn]
    exact (hl _ hm).symm

theorem stepped_xCall {ops : Array Oper} {e : Eff} (hs : Sim n w0 S0 C G σ a w) (hp : ¬ C.M p) (hpN : p < C.N) (hg : guardOf ops σ o = some []) (h : xCall P cs σ p o = some e)
    (hcon : ∀ k sig, lk cs.l k = some sig → PureFn P k sig (Pre k) (Φ k)) (hit : ∀ it ∈ e.items, ItemOk C Φ Pre it) (hlt : e.ent.2.lt C.N = true) (hdst : ∀ d, o.dst = some d → d < n) (hnf : ¬ S0.fr) (hnw : ¬ S0.wz) :
    Stepped1 P n w0 S0 C (e.app σ) p ops a w o := by
  unfold xCall at h
  split at h
  · rename_i f args argTypes ho
    split at h
    · rename_i fe k es l hf hes
      split at h
      · rename_i sig hsig
        split at h
        · rename_i hcnd
          obtain ⟨hob, hty, hnd, hshape, hbare⟩ := hcnd
          injection h with h; subst h
          intro K Q hK
          obtain ⟨hw, hc⟩ := guardOf_ok hs.t hg
          rw [hw, if_pos (show condB C.ρ [] = true from rfl)]
          obtain ⟨f1, f2, f3⟩ := getV_ok hs.t (pc := []) rfl hf
          obtain ⟨fl, hfl, hfh⟩ := has_fn.1 f3
          have hfl0 := has_nil.1 hfh
          subst hfl0
          obtain ⟨cvs, hfv, hclen, hcr⟩ := (hfl ▸ f2).inv_fn
          have hcv0 : cvs = [] := List.eq_nil_of_length_eq_zero (by simpa using hclen)
          subst hcv0
          obtain ⟨⟨k1, k2⟩, hmarks⟩ := argsX_ok hs.m hs.t (pc := []) rfl hes
          have hcontract := hcon _ _ hsig
          have hden : (den C.ρ (.ofL (es.map (·.1)))).toL = es.map fun x => den C.ρ x.1 := by rw [den_ofL]; simp [D.toL]
          have hrun : (execOp a.eval o).run P w = .ok (.enter k (args.toList.map a.eval).toArray) w := by
            have e1 : (args.toList.map a.eval).toArray = args.map a.eval := by apply Array.ext'; simp
            unfold execOp; simp only [ho, resolve, hfv, Deferred.ofValue, e1]
            have := hcontract.enter (args.map a.eval) w
            simpa [invoke] using this
          unfold Oper.wp
          rw [hrun]
          have hfoot : ∀ b o, footX G σ b o → b < w.heap.size := by
            rintro b o (h | ⟨g, x, hl, hb⟩)
            · exact hs.m.footlt b o h
            · exact ((hs.m.own g x.1 x.2.1 x.2.2 hl).lt_heap b hb).2
          have hrepargs : ∀ (i : Nat) v d, (args.toList.map a.eval)[i]? = some v → (es.map fun x => den C.ρ x.1)[i]? = some d → Rep w (footX G σ) v d := by
            intro i v d hv hd
            simp only [List.getElem?_map, Option.map_eq_some_iff] at hv hd
            obtain ⟨x, hx, rfl⟩ := hv
            obtain ⟨y, hy, rfl⟩ := hd
            exact (k2 i x y hx hy).2.1
          have hhas : HasL (.ofL sig.params) (es.map fun x => den C.ρ x.1) := by
            rw [← hty]
            refine hasL_mk (by simp) fun j u x hj hx => ?_
            simp only [List.getElem?_map, Option.map_eq_some_iff] at hj hx
            obtain ⟨y, hy, rfl⟩ := hj
            obtain ⟨y', hy', rfl⟩ := hx
            rw [hy] at hy'; injection hy' with hy'; subst hy'
            have hjl : j < args.toList.length := by rw [← k1]; exact (List.getElem?_eq_some_iff.1 hy).1
            exact (k2 j _ y (List.getElem?_eq_getElem hjl) hy).2.2
          obtain ⟨_, _, hρ, hpre⟩ := hit _ (List.mem_singleton.2 rfl)
          have hpre' := hpre rfl
          rw [hden] at hρ hpre'
          refine (hcontract.calls (by simpa using hob) w (footX G σ) _ _ hfoot (by simp [k1]) hrepargs hhas hpre').mono ?_
          rintro e' w' ⟨v, S', τ', rfl, hbel, hS, hSlt, hSnew, hres, hnewb, hdis, _⟩
          simp only
          rw [← hρ] at hres
          let S1 : Foot := fun b o => G.S b o ∨ (S' b o ∧ w.heap.size ≤ b)
          let G' : Gh := { S := S1, β := G.β, τ := fun g => if g.1 = p then τ' g.2 else G.τ g }
          have hτ : ∀ j, G'.τ (p, j) = τ' j := fun j => if_pos rfl
          have hM : (C.add p).M p := .inr rfl
          have hresC : ResOk w' 0 G'.S τ' sig.res v ((C.add p).ρ p) := ResOk.bare hres hbare fun j b hj hb o => by
            have hge := hnewb j b hj hb
            constructor
            · rintro (h | h)
              · have := hs.m.footlt b o h; omega
              · exact h.1
            · intro h; exact .inr ⟨h, hge⟩
          have hlive := resLive_ok (C := C.add p) (G := G') hresC hM hpN hτ
          have hupd : updL σ.live (l ++ resLive p sig.res) = updL σ.live (resLive p sig.res) := updL_marks (fun y hy => (hmarks y hy).1) (fun y hy z hz he => by
            obtain ⟨h1, h2⟩ := hmarks y hy
            cases hy2 : y.2 with
            | none => rw [hy2] at h2; cases h2
            | some x => rw [hy2] at h1; exact not_M_live hs.m hp h1 (by rw [he]; exact (hlive z hz).1))
          obtain ⟨hlat, hm⟩ := hs.m.called hp (τ' := τ') hbel (fun b o h => .inl h) (S' := S1)
            (by
              rintro b o (h | h)
              · have := hs.m.footlt b o h
                have := hbel.size
                omega
              · exact hSlt b o h.1)
            (by
              rintro b o (h | h)
              · exact .inl h
              · exact .inr h.2) (updL σ.live (resLive p sig.res)) G' rfl
            (by
              intro g x hx
              unfold updL at hx
              split at hx
              · rename_i y hy
                obtain ⟨q1, q2, e1, T1, t1, q3, q4⟩ := hlive _ (lk_mem hy)
                simp only at q1 q3 q4
                rw [q3] at hx; injection hx with hx; subst hx
                refine .inr ⟨q1, q4.rebase (fun b hb => hnewb g.2 b q2 ?_)⟩
                have e : G'.τ g = τ' g.2 := if_pos q1
                rw [← e]; exact hb
              · exact .inl ⟨not_M_live hs.m hp hx, hx⟩)
            (by
              intro j1 j2 x y b hx hy hb1 hb2
              have key : ∀ j x, updL σ.live (resLive p sig.res) (p, j) = some x → j ∈ ownIdx sig.res := by
                intro j x hx
                unfold updL at hx
                split at hx
                · rename_i y hy
                  exact (hlive _ (lk_mem hy)).2.1
                · exact absurd rfl (not_M_live hs.m hp hx)
              exact hdis j1 j2 b (key j1 x hx) (key j2 y hy) hb1 hb2) (fun hff => absurd hff hnf) hnw
          exact hK _ _ _ (hs.step (o := o) (e := ⟨o.dst, ([], resSV true p sig.res), [], l ++ resLive p sig.res, [], [.call p k (.ofL (es.map (·.1))) []]⟩) hlat (hm.congr (updL_nil _) hupd) rfl hlt hc
            (by intro _; simp only [condB, List.all_nil, if_true]; exact resSV_ok (C := C.add p) (G := G') hresC hM hpN hτ _) hdst)
        · cases h
      · cases h
    · cases h
  · cases h
theorem asDataX_marks {c : SC} {x : E × Ty} {l : List (Tag × Option (E × TypeId × Ty))} (h : asDataX σ c = some (x, l)) : ∀ y ∈ l, σ.live y.1 = y.2 := by
  unfold asDataX at h
  split at h
  · split at h
    · rename_i e T hl
      injection h with h; simp only [Prod.mk.injEq] at h; obtain ⟨_, rfl⟩ := h
      unfold liveX at hl
      split at hl
      · rename_i e' T' t' hl'
        split at hl
        · rename_i hc
          injection hl with hl; simp only [Prod.mk.injEq] at hl; obtain ⟨rfl, rfl⟩ := hl
          intro y hy
          rw [List.mem_singleton] at hy; subst hy
          rw [hl', hc.1]
        · cases hl
      · cases hl
    · cases h
  · rw [Option.map_eq_some_iff] at h
    obtain ⟨_, _, h⟩ := h
    simp only [Prod.mk.injEq] at h; obtain ⟨_, rfl⟩ := h
    simp
theorem asDatasX_marks : ∀ {cs : List SC} {x : List E × List Ty} {l : List (Tag × Option (E × TypeId × Ty))}, asDatasX σ cs = some (x, l) → ∀ y ∈ l, σ.live y.1 = y.2
  | [], x, l, h => by simp only [asDatasX, Option.some.injEq, Prod.mk.injEq] at h; obtain ⟨_, rfl⟩ := h; simp
  | c :: r, x, l, h => by
    simp only [asDatasX] at h
    split at h
    · rename_i e t l1 es ts ls h1 h2
      injection h with h; simp only [Prod.mk.injEq] at h; obtain ⟨_, rfl⟩ := h
      intro y hy
      rcases List.mem_append.1 hy with hy | hy
      · exact asDataX_marks h1 y hy
      · exact asDatasX_marks h2 y hy
    · cases h
theorem asDataVX_marks {s : SV} {x : E × Ty} {l : List (Tag × Option (E × TypeId × Ty))} (h : asDataVX σ s = some (x, l)) : ∀ y ∈ l, σ.live y.1 = y.2 := by
  cases s with
  | one c => exact asDataX_marks h
  | agg cl =>
    simp only [asDataVX] at h
    split at h
    · rename_i es ts ls h1
      injection h with h; simp only [Prod.mk.injEq] at h; obtain ⟨_, rfl⟩ := h
      exact asDatasX_marks h1
    · cases h
  | tup l => cases h
theorem argsX_marks {pc : Cond} : ∀ {xs : List Operand} {tys : List TypeId} {es : List (E × Ty)} {l : List (Tag × Option (E × TypeId × Ty))}, argsX P σ pc xs tys = some (es, l) → ∀ y ∈ l, σ.live y.1 = y.2
  | [], [], es, l, h => by simp only [argsX, Option.some.injEq, Prod.mk.injEq] at h; obtain ⟨_, rfl⟩ := h; simp
  | x :: xs, t :: ts, es, l, h => by
    simp only [argsX] at h
    split at h
    · rename_i e l1 es' ls h1 h2
      injection h with h; simp only [Prod.mk.injEq] at h; obtain ⟨_, rfl⟩ := h
      rw [Option.bind_eq_some_iff] at h1
      obtain ⟨sv, _, h1⟩ := h1
      intro y hy
      rcases List.mem_append.1 hy with hy | hy
      · exact asDataVX_marks h1 y hy
      · exact argsX_marks h2 y hy
    · cases h
  | [], _ :: _, _, _, h => by cases h
  | _ :: _, [], _, _, h => by cases h

theorem stepped_xCallG {ops : Array Oper} {pc : Cond} {e : Eff} (hs : Sim n w0 S0 C G σ a w) (hp : ¬ C.M p) (hpN : p < C.N) (hg : guardOf ops σ o = some pc) (h : xCallG P cs σ pc p o = some e)
    (hcon : ∀ k sig, lk cs.l k = some sig → PureFn P k sig (Pre k) (Φ k)) (hit : ∀ it ∈ e.items, ItemOk C Φ Pre it) (hlt : e.ent.2.lt C.N = true) (hdst : ∀ d, o.dst = some d → d < n) (hnf : ¬ S0.fr) (hnw : ¬ S0.wz) :
    Stepped1 P n w0 S0 C (e.app σ) p ops a w o := by
  unfold xCallG at h
  split at h
  · rename_i f args argTypes ho
    split at h
    · rename_i fe k es l hf hes
      split at h
      · rename_i sig hsig
        split at h
        · rename_i hcnd
          obtain ⟨hob, hty, hnd, hnx, hshape, hbare⟩ := hcnd
          injection h with h; subst h
          have hmk : updL σ.live l = σ.live := by
            have := updL_marks (σ := σ) (l := l) (r := []) (argsX_marks hes) (fun _ _ _ hz => by simp at hz)
            rw [List.append_nil] at this
            rw [this]; exact updL_nil _
          intro K Q hK
          obtain ⟨hw, hc⟩ := guardOf_ok hs.t hg
          rw [hw]
          cases hpc : condB C.ρ pc with
          | false =>
            simp only [Bool.false_eq_true, if_false]
            exact hK _ _ _ (hs.step (o := o) (e := ⟨o.dst, (pc, resSV false p sig.res), [], l, [], [.call p k (.ofL (es.map (·.1))) pc]⟩) (Later.addM C w G p) ((hs.m.addM p).congr (updL_nil _) hmk) rfl hlt hc
              (by intro _; simp only [hpc, Bool.false_eq_true, if_false]) hdst)
          | true =>
            simp only [if_true]
            obtain ⟨f1, f2, f3⟩ := getV_ok hs.t (pc := []) rfl hf
            obtain ⟨fl, hfl, hfh⟩ := has_fn.1 f3
            have hfl0 := has_nil.1 hfh
            subst hfl0
            obtain ⟨cvs, hfv, hclen, hcr⟩ := (hfl ▸ f2).inv_fn
            have hcv0 : cvs = [] := List.eq_nil_of_length_eq_zero (by simpa using hclen)
            subst hcv0
            obtain ⟨⟨k1, k2⟩, _⟩ := argsX_ok hs.m hs.t hpc hes
            have hcontract := hcon _ _ hsig
            have hden : (den C.ρ (.ofL (es.map (·.1)))).toL = es.map fun x => den C.ρ x.1 := by rw [den_ofL]; simp [D.toL]
            have hrun : (execOp a.eval o).run P w = .ok (.enter k (args.toList.map a.eval).toArray) w := by
              have e1 : (args.toList.map a.eval).toArray = args.map a.eval := by apply Array.ext'; simp
              unfold execOp; simp only [ho, resolve, hfv, Deferred.ofValue, e1]
              have := hcontract.enter (args.map a.eval) w
              simpa [invoke] using this
            unfold Oper.wp
            rw [hrun]
            have hfoot : ∀ b o, footX G σ b o → b < w.heap.size := by
              rintro b o (h | ⟨g, x, hl, hb⟩)
              · exact hs.m.footlt b o h
              · exact ((hs.m.own g x.1 x.2.1 x.2.2 hl).lt_heap b hb).2
            have hrepargs : ∀ (i : Nat) v d, (args.toList.map a.eval)[i]? = some v → (es.map fun x => den C.ρ x.1)[i]? = some d → Rep w (footX G σ) v d := by
              intro i v d hv hd
              simp only [List.getElem?_map, Option.map_eq_some_iff] at hv hd
              obtain ⟨x, hx, rfl⟩ := hv
              obtain ⟨y, hy, rfl⟩ := hd
              exact (k2 i x y hx hy).2.1
            have hhas : HasL (.ofL sig.params) (es.map fun x => den C.ρ x.1) := by
              rw [← hty]
              refine hasL_mk (by simp) fun j u x hj hx => ?_
              simp only [List.getElem?_map, Option.map_eq_some_iff] at hj hx
              obtain ⟨y, hy, rfl⟩ := hj
              obtain ⟨y', hy', rfl⟩ := hx
              rw [hy] at hy'; injection hy' with hy'; subst hy'
              have hjl : j < args.toList.length := by rw [← k1]; exact (List.getElem?_eq_some_iff.1 hy).1
              exact (k2 j _ y (List.getElem?_eq_getElem hjl) hy).2.2
            obtain ⟨_, _, hρ, hpre⟩ := hit _ (List.mem_singleton.2 rfl)
            have hpre' := hpre hpc
            rw [hden] at hρ hpre'
            refine (hcontract.calls (by simpa using hob) w (footX G σ) _ _ hfoot (by simp [k1]) hrepargs hhas hpre').mono ?_
            rintro e' w' ⟨v, S', τ', rfl, hbel, hS, hSlt, hSnew, hres, hnewb, hdis, _⟩
            simp only
            rw [← hρ] at hres
            let G' : Gh := { S := G.S, β := G.β, τ := fun g => if g.1 = p then τ' g.2 else G.τ g }
            have hτ : ∀ j, G'.τ (p, j) = τ' j := fun j => if_pos rfl
            have hM : (C.add p).M p := .inr rfl
            have hresC : ResOk w' 0 G'.S τ' sig.res v ((C.add p).ρ p) := ResOk.bare hres hbare fun j b hj => by rw [hnd] at hj; simp at hj
            obtain ⟨hlat, hm⟩ := hs.m.called hp (τ' := τ') hbel (fun b o h => h) (S' := G.S)
              (fun b o h => Nat.lt_of_lt_of_le (hs.m.footlt b o h) hbel.size) (fun b o h => .inl h) σ.live G' rfl
              (fun g x hx => .inl ⟨not_M_live hs.m hp hx, hx⟩)
              (fun j1 j2 x y b hx _ _ _ => absurd rfl (not_M_live hs.m hp hx)) (fun hff => absurd hff hnf) hnw
            exact hK _ _ _ (hs.step (o := o) (e := ⟨o.dst, (pc, resSV false p sig.res), [], l, [], [.call p k (.ofL (es.map (·.1))) pc]⟩) hlat (hm.congr (updL_nil _) hmk) rfl hlt hc
              (by intro _; simp only [hpc, if_true]; exact resSV_ok (C := C.add p) (G := G') hresC hM hpN hτ _ (.inr hnx)) hdst)
        · cases h
      · cases h
    · cases h
  · cases h
end
end Go.Eng
