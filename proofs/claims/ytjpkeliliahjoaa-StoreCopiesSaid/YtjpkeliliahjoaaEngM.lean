/-
  Calls, appends and slice literals, as steps; every operation together.
-/
import Derived.Test.YtjpkeliliahjoaaEngLd
namespace Go.Eng
open Go Go.RowKit

section
variable {P : Program} {C : Cx} {w w0 : World} {S0 : Base} {G : Gh} {σ : St} {a : Act} {o : Oper} {pc : Cond} {s : SV} {is : List Item} {Φ : Nat → List D → D} {Pre : Nat → List D → Prop} {n p : Nat} {cs : Tbl}

theorem not_M_live (hm : SimM w0 S0 C G σ w) (hp : ¬ C.M p) {g : Tag} {x : E × TypeId × Ty} (h : σ.live g = some x) : g.1 ≠ p :=
  fun e => hp (e ▸ (hm.own g x.1 x.2.1 x.2.2 h).m)

theorem OwnOk.rebase {base base' : Nat} {g : Tag} {e : E} {T : TypeId} {t : Ty} (h : OwnOk C w base G g e T t) (hb : ∀ b, (G.τ g).ownBlock = some b → base' ≤ b) : OwnOk C w base' G g e T t := by
  obtain ⟨xs, l, hd, hown, hrest⟩ := h.own
  refine ⟨h.m, h.lt, h.has, xs, l, hd, ⟨hown.1, ?_⟩, hrest⟩
  rcases hown.2 with hn | ⟨b, cap, cur, hv, hbb, hg⟩
  · exact .inl hn
  · exact .inr ⟨b, cap, cur, hv, hb b (by rw [hv]; rfl), hg⟩

theorem stepped_call {ops : Array Oper} {k : Nat} {e : E} {sig : Sig} (hs : Sim n w0 S0 C G σ a w) (hp : ¬ C.M p) (hpN : p < C.N) (hg : guardOf ops σ o = some pc) (h : opCall P cs σ pc o = some (k, e, sig))
    (hcon : ∀ k sig, lk cs.l k = some sig → PureFn P k sig (Pre k) (Φ k)) (hit : ItemOk C Φ Pre (.call p k e pc)) (hlt : (resSV pc.isEmpty p sig.res).lt C.N = true) (hdst : ∀ d, o.dst = some d → d < n) (items : List Item) (hfr : S0.fr → frOk P cs σ pc o = true) (hnw : ¬ S0.wz) :
    Stepped1 P n w0 S0 C ((⟨o.dst, (pc, resSV pc.isEmpty p sig.res), [], if pc.isEmpty then resLive p sig.res else [], [], items⟩ : Eff).app σ) p ops a w o := by
  intro K Q hK
  obtain ⟨hw, hc⟩ := guardOf_ok hs.t hg
  rw [hw]
  have hemp : condB C.ρ pc = false → pc.isEmpty = false := by intro h; cases pc <;> first | rfl | (simp [condB] at h)
  cases hpc : condB C.ρ pc with
  | false =>
    simp only [Bool.false_eq_true, if_false]
    have hm : SimM w0 S0 (C.add p) G ((⟨o.dst, (pc, resSV pc.isEmpty p sig.res), [], if pc.isEmpty then resLive p sig.res else [], [], items⟩ : Eff).app σ) w :=
      (hs.m.addM p).congr (updL_nil _) (by simp only [Eff.app, hemp hpc, Bool.false_eq_true, if_false]; exact updL_nil _)
    exact hK _ _ _ (hs.step (o := o) (e := ⟨o.dst, (pc, resSV pc.isEmpty p sig.res), [], if pc.isEmpty then resLive p sig.res else [], [], items⟩) (Later.addM C w G p) hm rfl hlt hc
      (by intro _; simp only [hpc, Bool.false_eq_true, if_false]) hdst)
  | true =>
    simp only [if_true]
    unfold opCall at h
    split at h
    · rename_i f args argTypes ho
      split at h
      · rename_i fe k' fs es hf hes
        split at h
        · rename_i sig' hsig
          split at h
          · rename_i hcnd
            obtain ⟨hob, hty, hnd, hshape, hnx⟩ := hcnd
            injection h with h; simp only [Prod.mk.injEq] at h; obtain ⟨rfl, hE, rfl⟩ := h
            obtain ⟨f1, f2, f3⟩ := getV_ok hs.t hpc hf
            obtain ⟨fl, hfl, hfh⟩ := has_fn.1 f3
            obtain ⟨cvs, hfv, hclen, hcr⟩ := (hfl ▸ f2).inv_fn
            obtain ⟨k1, k2⟩ := argsE_ok hs.t hpc hes
            have hcontract := sigOf_ok hsig hcon
            -- the arguments' data
            have hden : (den C.ρ e).toL = (es.map fun x => den C.ρ x.1) ++ fl := by
              rw [← hE, den_ofL]
              simp only [D.toL, List.map_append, List.map_map]
              congr 1
              apply List.ext_getElem?
              intro i
              simp only [List.getElem?_map, cellsE_get, Option.map_map]
              cases hi : (fs.toL)[i]? with
              | none =>
                have : fl.length ≤ i := by rw [hasL_len hfh]; exact List.getElem?_eq_none_iff.1 hi
                simp [List.getElem?_eq_none this]
              | some t =>
                obtain ⟨x, hx, _⟩ := hasL_get hfh i t hi
                simp only [Option.map_some, Function.comp, den, U.den, hfl, D.toL, Nat.zero_add, toL_getD hx, hx]
            have hlenargs : (args.toList.map a.eval ++ cvs).length = ((es.map fun x => den C.ρ x.1) ++ fl).length := by simp [k1, hclen]
            have hrun : (execOp a.eval o).run P w = .ok (.enter k' (args.toList.map a.eval ++ cvs).toArray) w := by
              have e1 : (args.toList.map a.eval ++ cvs).toArray = args.map a.eval ++ cvs.toArray := by apply Array.ext'; simp
              unfold execOp; simp only [ho, resolve, hfv, Deferred.ofValue, e1]
              have := hcontract.enter (args.map a.eval ++ cvs.toArray) w
              simpa [invoke] using this
            unfold Oper.wp
            rw [hrun]
            have hrepargs : ∀ (i : Nat) v d, (args.toList.map a.eval ++ cvs)[i]? = some v → ((es.map fun x => den C.ρ x.1) ++ fl)[i]? = some d → Rep w G.S v d := by
              intro i v d hv hd
              by_cases hi : i < args.toList.length
              · rw [List.getElem?_append_left (by simpa using hi)] at hv
                rw [List.getElem?_append_left (by rw [List.length_map, k1]; exact hi)] at hd
                simp only [List.getElem?_map, Option.map_eq_some_iff] at hv hd
                obtain ⟨x, hx, rfl⟩ := hv
                obtain ⟨y, hy, rfl⟩ := hd
                exact (k2 i x y hx hy).1
              · rw [List.getElem?_append_right (by simpa using hi)] at hv
                rw [List.getElem?_append_right (by rw [List.length_map, k1]; omega)] at hd
                simp only [List.length_map] at hv hd
                rw [k1] at hd
                exact hcr _ v d hv hd
            have hhas : HasL (.ofL sig'.params) ((es.map fun x => den C.ρ x.1) ++ fl) := by
              rw [← hty]
              refine hasL_mk (by simp [hasL_len hfh]) fun j u x hj hx => ?_
              by_cases hi : j < es.length
              · rw [List.getElem?_append_left (by simpa using hi)] at hj hx
                simp only [List.getElem?_map, Option.map_eq_some_iff] at hj hx
                obtain ⟨y, hy, rfl⟩ := hj
                obtain ⟨y', hy', rfl⟩ := hx
                rw [hy] at hy'; injection hy' with hy'; subst hy'
                have hlen : j < args.toList.length := by rw [← k1]; exact hi
                exact (k2 j _ y (List.getElem?_eq_getElem hlen) hy).2
              · rw [List.getElem?_append_right (by simpa using hi)] at hj hx
                simp only [List.length_map] at hj hx
                obtain ⟨y, hy, hhy⟩ := hasL_get hfh _ u hj
                rw [hx] at hy; injection hy with hy; subst hy; exact hhy
            obtain ⟨_, _, hρ, hpre⟩ := hit
            have hpre' := hpre hpc
            rw [hden] at hρ hpre'
            refine (hcontract.calls (by simpa using hob) w G.S _ _ hs.m.footlt hlenargs hrepargs hhas hpre').mono ?_
            rintro e' w' ⟨v, S', τ0, rfl, hbel, hS, hSlt, hSnew, hres0, hnewb0, hdis0, hfrn0⟩
            simp only
            rw [← hρ] at hres0
            obtain ⟨τ', hτ'⟩ : ∃ τ', τ' = saneτ sig'.res τ0 := ⟨_, rfl⟩
            have hin : ∀ j, j ∈ ownIdx sig'.res → τ' j = τ0 j := fun j hj => by rw [hτ']; exact if_pos hj
            have hres := hres0.sane
            rw [← hτ'] at hres
            have hnewb : ∀ j b, j ∈ ownIdx sig'.res → (τ' j).ownBlock = some b → w.heap.size ≤ b := fun j b hj hb => hnewb0 j b hj (by rw [← hin j hj]; exact hb)
            have hdis : ∀ j k b, j ∈ ownIdx sig'.res → k ∈ ownIdx sig'.res → (τ' j).ownBlock = some b → (τ' k).ownBlock = some b → j = k := fun j k b hj hk h1 h2 => hdis0 j k b hj hk (by rw [← hin j hj]; exact h1) (by rw [← hin k hk]; exact h2)
            let G' : Gh := { S := S', β := G.β, τ := fun g => if g.1 = p then τ' g.2 else G.τ g }
            have hτ : ∀ j, G'.τ (p, j) = τ' j := fun j => if_pos rfl
            have hM : (C.add p).M p := .inr rfl
            have hresC : ResOk w' 0 G'.S τ' sig'.res v ((C.add p).ρ p) := hres
            have hlive := resLive_ok (C := C.add p) (G := G') hresC hM hpN hτ
            obtain ⟨hlat, hm⟩ := hs.m.called hp (τ' := τ') hbel hS hSlt hSnew (updL σ.live (if pc.isEmpty then resLive p sig'.res else [])) G' rfl
              (by
                intro g x hx
                unfold updL at hx
                split at hx
                · rename_i y hy
                  have hmem := lk_mem hy
                  cases hpe : pc.isEmpty with
                  | false => rw [hpe] at hmem; simp at hmem
                  | true =>
                    rw [hpe] at hmem; simp only [if_true] at hmem
                    obtain ⟨q1, q2, e1, T1, t1, q3, q4⟩ := hlive _ hmem
                    simp only at q1 q3 q4
                    rw [q3] at hx; injection hx with hx; subst hx
                    refine .inr ⟨q1, q4.rebase (fun b hb => hnewb g.2 b q2 ?_)⟩
                    have e : G'.τ g = τ' g.2 := if_pos q1
                    rw [← e]; exact hb
                · exact .inl ⟨not_M_live hs.m hp hx, hx⟩)
              (by
                intro j1 j2 x y b hx hy hb1 hb2
                have key : ∀ j x, updL σ.live (if pc.isEmpty then resLive p sig'.res else []) (p, j) = some x → j ∈ ownIdx sig'.res := by
                  intro j x hx
                  unfold updL at hx
                  split at hx
                  · rename_i y hy
                    have hmem := lk_mem hy
                    cases hpe : pc.isEmpty with
                    | false => rw [hpe] at hmem; simp at hmem
                    | true =>
                      rw [hpe] at hmem; simp only [if_true] at hmem
                      exact (hlive _ hmem).2.1
                  · exact absurd rfl (not_M_live hs.m hp hx)
                exact hdis j1 j2 b (key j1 x hx) (key j2 y hy) hb1 hb2)
              (fun hff => by
                have h1 := hfr hff
                unfold frOk at h1
                simp only [ho, hf, hsig, Bool.and_eq_true] at h1
                rw [hτ']
                exact hres0.fresh h1.1.1 h1.2 (fun j b hj hb => .inl (Nat.le_trans hs.m.base_le (hnewb0 j b hj hb))) fun j hj hfj => (hfrn0 j hj hfj).weak fun b hb => .inl (Nat.le_trans hs.m.base_le hb)) hnw
            exact hK _ _ _ (hs.step (o := o) (e := ⟨o.dst, (pc, resSV pc.isEmpty p sig'.res), [], if pc.isEmpty then resLive p sig'.res else [], [], items⟩) hlat (hm.congr (updL_nil _) rfl) rfl hlt hc
              (by intro _; simp only [hpc, if_true]; exact resSV_ok (C := C.add p) (G := G') hresC hM hpN hτ _ (by simpa using hnx)) hdst)
          · cases h
        · cases h
      · cases h
    · cases h

/-- A slice that is read: where its elements' cells lie. -/
theorem Rep.source {S : Foot} {v : Value} {l : List D} {k : Nat} (h : Rep w S v (.list l)) (hk : ∀ d ∈ l, d.cells.length = k) :
    ∃ (A : Option Addr) (c : Nat) (news : List Value), v = .slice A l.length c ∧ (A = none → l.length = 0) ∧ news.length = l.length * k ∧ (∀ ad, A = some ad → ∀ (j : Nat) u, news[j]? = some u → w.cell? (ad.add j) = some u) ∧
      ∀ (i : Nat) d (j : Nat) u c, l[i]? = some d → d.cells[j]? = some c → news[i * k + j]? = some u → Rep w S u c := by
  cases h with
  | nil ad cap => exact ⟨ad, cap, [], rfl, fun _ => rfl, by simp, by simp, by simp⟩
  | list b off cap sz xs _ hsz hne hcap hl hS hc hw hr =>
    have hszk : sz = k := by
      cases hds : l with
      | nil => exact absurd hds hne
      | cons d r => rw [← hw 0 d (by rw [hds]; rfl)]; exact hk d (by rw [hds]; simp)
    subst hszk
    refine ⟨_, cap, xs, rfl, (by intro h; cases h), hl, ?_, hr⟩
    intro ad had j u hu
    injection had with had; subst had
    rw [addr_add]; exact hc j u hu

theorem freshArg_val {N : Nat → Prop} {sv : SV} {v : Value} {e2 : E} {u : Ty} (hf : freshArg sv = true) (hfr : ∀ g, FrV N w G.S (G.τ g)) (hr : RSV C w G sv v) (hd : asDataV sv = some (e2, .list u)) :
    ValIn (FrB N w G.S) v ∨ (u.cells.all Ty.bare) = true := by
  cases sv with
  | one c =>
    cases c with
    | own g e t => exact .inl (freshSC_val (C := C) (c := .own g e t) rfl hfr hr)
    | nils t => exact .inl (freshSC_val (C := C) (c := .nils t) rfl hfr hr)
    | dat e t =>
      simp only [asDataV, asData, Option.some.injEq, Prod.mk.injEq] at hd
      obtain ⟨_, rfl⟩ := hd
      exact .inr hf
    | clip e t =>
      simp only [asDataV, asData, Option.some.injEq, Prod.mk.injEq, Ty.list.injEq] at hd
      obtain ⟨_, rfl⟩ := hd
      exact .inr hf
    | _ => cases hf
  | _ => cases hf

theorem stepped_append {ops : Array Oper} {g : Option Tag} {e1 e2 : E} {T : TypeId} {t : Ty} {b : Nat} (hs : Sim n w0 S0 C G σ a w) (hp : ¬ C.M p) (hg : guardOf ops σ o = some [])
    (h : opAppend P σ [] o = some (g, e1, e2, T, t, b)) (hit : ItemOk C Φ Pre (.room [] (.bin .cat e1 e2) b)) (hdst : ∀ d, o.dst = some d → d < n) (items : List Item) (hfr : S0.fr → frOk P cs σ [] o = true) (hnw : ¬ S0.wz) :
    Stepped1 P n w0 S0 C ((⟨o.dst, ([], .one (.own (p, 0) (.bin .cat e1 e2) t)), [], (match g with | some g => [(g, none)] | none => []) ++ [((p, 0), some (.bin .cat e1 e2, T, t))], [], items⟩ : Eff).app σ) p ops a w o := by
  intro K Q hK
  obtain ⟨hw, hc⟩ := guardOf_ok hs.t hg
  rw [hw]
  simp only [condB, List.all_nil, if_true]
  unfold opAppend at h
  split at h
  · rename_i args argTypes ho
    split at h
    · rename_i sx x tt tt' hargs hats
      split at h
      · rename_i el sv ex u hu hsv hx
        split at h
        · rename_i ie u' hie hu'
          split at h
          · rename_i hcnd
            obtain ⟨rfl, rfl, hwid, hpos, hscal, hzero, hbyt⟩ := hcnd
            obtain ⟨y1, y2, y3⟩ := getD_ok hs.t (pc := []) rfl hx
            obtain ⟨l2, hl2, hl2m, hall2⟩ := has_list.1 y3
            have hk2 : ∀ d ∈ l2, d.cells.length = u.cells.length := fun d hd => (has_cells (hall2 d hd)).1
            obtain ⟨A, c, news, hxv, hA, hnl, hnc, hnr⟩ := (hl2 ▸ y2).source hk2
            obtain ⟨z, hz, hzs⟩ : ∃ z, ie.zero = some z ∧ z.cells.size = ie.size := by
              cases hq : ie.zero with
              | none => simp [hq] at hzero
              | some z => exact ⟨z, rfl, by simpa [hq] using hzero⟩
            -- all that is asked of the slice that is appended to
            have hcs : ∀ e0 u0, sv ≠ .one (.clip e0 u0) := by
              rintro e0 u0 rfl
              cases h
            have main : ∀ (v : Value) (e1' : E) (g' : Option Tag), a.eval sx = v → e1'.lt C.N = true → (∃ l1 xs, den C.ρ e1' = .list l1 ∧ (∀ d ∈ l1, Has u d) ∧ w.ownsRow 0 el u.cells.length v l1.length xs ∧
                (∀ (i : Nat) d (j : Nat) u' c, l1[i]? = some d → d.cells[j]? = some c → xs[i * u.cells.length + j]? = some u' → Rep w G.S u' c) ∧
                (v = .slice none 0 0 ∧ g' = none ∨ ∃ g x, g' = some g ∧ σ.live g = some x ∧ G.τ g = v ∧ ∀ b, v.ownBlock = some b → (∀ o, G.S b o ↔ Tag.ex (p, 0) = false ∧ o < xs.length))) →
                ItemOk C Φ Pre (.room [] (.bin .cat e1' ex) ie.bytes) →
                (∀ a' w' G', Sim n w0 S0 (C.add p) G' ((⟨o.dst, ([], .one (.own (p, 0) (.bin .cat e1' ex) u)), [], (match g' with | some g => [(g, none)] | none => []) ++ [((p, 0), some (.bin .cat e1' ex, el, u))], [], items⟩ : Eff).app σ) a' w' → K a' w') →
                o.wp P a w K Q := by
              rintro v e1' g' hv he1 ⟨l1, xs, hl1, hall1, hown, hxr, hold⟩ hroom hK
              have hden : den C.ρ (.bin .cat e1' ex) = .list (l1 ++ l2) := by simp only [den, B.den, hl1, hl2, D.toL]
              obtain ⟨hr0, hr1⟩ := hroom
              have hr2 := hr1 rfl
              rw [hden] at hr2
              simp only [D.toL, List.length_append] at hr2
              have hone : ∀ w ∈ news, w.oneCell' = true := by
                intro uu huu
                obtain ⟨q, hq⟩ := List.getElem?_of_mem huu
                have hql : q < news.length := (List.getElem?_eq_some_iff.1 hq).1
                have hwp : 0 < u.cells.length := by omega
                have hi : q / u.cells.length < l2.length := by rw [Nat.div_lt_iff_lt_mul hwp, ← hnl]; exact hql
                have hj : q % u.cells.length < u.cells.length := Nat.mod_lt _ hwp
                have hd : l2[q / u.cells.length]? = some (l2[q / u.cells.length]'hi) := List.getElem?_eq_getElem hi
                have hty : u.cells[q % u.cells.length]? = some (u.cells[q % u.cells.length]'hj) := List.getElem?_eq_getElem hj
                obtain ⟨cc, hcc, hcc2⟩ := (has_cells (hall2 _ (List.mem_of_getElem? hd))).2 _ _ hty
                have hqq : q / u.cells.length * u.cells.length + q % u.cells.length = q := by rw [Nat.mul_comm]; exact Nat.div_add_mod _ _
                exact (hnr _ _ _ uu cc hd hcc (by rw [hqq]; exact hq)).oneCell hcc2 (List.all_eq_true.1 hscal _ (List.getElem_mem hj))
              obtain ⟨v', w', hrun, hown', hcase⟩ := run_append_cases (P := P) w 0 tt o.type el ie z u.cells.length hu hie hz hwid.symm (by rw [hzs, hwid]) v l1.length xs hown A l2.length c news hA hnl hnc hone hr2.1 hr2.2 (Nat.zero_le _)
              have hexec : (execOp a.eval o).run P w = .ok (.value v') w' := by
                have ha1 : args = #[sx, x] := by apply Array.ext'; simpa using hargs
                have ha2 : argTypes = #[tt, tt] := by apply Array.ext'; simpa using hats
                unfold execOp; simp only [ho, resolve, invoke, builtin, ha1, ha2]
                simp [hv, hxv, hrun]
              unfold Oper.wp
              rw [hexec]
              have hgp : ∀ g, g' = some g → g ≠ (p, 0) := by
                intro g hgg he
                rcases hold with ⟨_, h2⟩ | ⟨g0, x0, h2, h3, _⟩
                · rw [h2] at hgg; cases hgg
                · rw [h2] at hgg; injection hgg with hgg; subst hgg; subst he
                  exact not_M_live hs.m hp h3 rfl
              obtain ⟨G', hlat, hm, hτ⟩ := hs.m.appended hp 0 (v := v) (v' := v') (T := el) (t := u) (n := l1.length) (m := l2.length) (xs := xs) (news := news) (l := l1) (l2 := l2) (e2 := .bin .cat e1' ex)
                (by omega) rfl rfl hxr hnr (fun d hd => (has_cells (hall1 d hd)).1) hown.1 hown' hcase (updL σ.live ((match g' with | some g => [(g, none)] | none => []) ++ [((p, 0), some (.bin .cat e1' ex, el, u))]))
                (by
                  rcases hold with ⟨h1, _⟩ | ⟨g0, x0, h2, h3, h4, h5⟩
                  · exact .inl h1
                  · refine .inr ⟨g0, x0, h3, h4, ?_, fun b hb => ⟨h5 b hb, fun o' u' ho' => ?_⟩⟩
                    · rw [h2]; simp [updL, lk]
                    · have := hown.cells (g := b) hb o' u' ho'
                      rw [addr_add, Nat.zero_add] at this; exact this)
                (by simp [E.lt, he1, y1]) hden (by rw [hden]; exact has_list.2 ⟨_, rfl, ⟨by simpa using hr2.1, by rw [← hbyt]; simpa using hr2.2⟩, fun d hd => by rcases List.mem_append.1 hd with h | h; exact hall1 d h; exact hall2 d h⟩)
                (by
                  intro g0 x0 hx0
                  unfold updL at hx0
                  cases g' with
                  | none =>
                    simp only [List.nil_append, lk] at hx0
                    by_cases he : g0 = (p, 0)
                    · rw [if_pos he] at hx0; simp only [Option.some.injEq] at hx0; exact .inr ⟨he, hx0.symm⟩
                    · rw [if_neg he] at hx0; exact .inl ⟨he, hx0⟩
                  | some g1 =>
                    simp only [List.cons_append, List.nil_append, lk] at hx0
                    by_cases he1 : g0 = g1
                    · rw [if_pos he1] at hx0; cases hx0
                    · rw [if_neg he1] at hx0
                      by_cases he : g0 = (p, 0)
                      · rw [if_pos he] at hx0; simp only [Option.some.injEq] at hx0; exact .inr ⟨he, hx0.symm⟩
                      · rw [if_neg he] at hx0; exact .inl ⟨he, hx0⟩)
                (fun hff => ⟨rfl, (by
                  intro hn u0 hu0
                  rcases hown.2 with ⟨_, h1⟩ | ⟨b0, cap0, cur0, h1, _⟩
                  · have := hown.1
                    rw [h1, Nat.zero_mul] at this
                    rw [List.eq_nil_of_length_eq_zero this] at hu0; simp at hu0
                  · rw [hn] at h1; cases h1), (by
                  have h1 := hfr hff
                  unfold frOk at h1
                  simp only [ho, hargs, hats] at h1
                  cases hxs : getV P σ [] x tt with
                  | none => rw [getD_, hxs] at hx; cases hx
                  | some xv =>
                    have hxd : asDataV xv = some (ex, .list u) := by rw [getD_, hxs] at hx; exact hx
                    have h2 : (u.cells.all Ty.bare) = true ∨ freshArg xv = true := by
                      rw [hsv, hxs] at h1
                      cases sv with
                      | one c0 => cases c0 with
                        | clip e0 u0 => exact absurd rfl (hcs _ _)
                        | _ => exact .inr h1
                      | _ => exact .inr h1
                    have h3 : ValIn (FrB (NewB w0 S0) w G.S) (a.eval x) ∨ (u.cells.all Ty.bare) = true := by
                      rcases h2 with h2 | h2
                      · exact .inr h2
                      · exact freshArg_val h2 (hs.m.fresh hff) (getV_ok hs.t (pc := []) rfl hxs) hxd
                    rcases h3 with h3 | h3
                    · exact valIn_news h3 (hl2 ▸ y2) hk2 hxv hnl hnc
                    · exact valIn_elems h3 (by omega) hall2 hnl hnr)⟩) hnw
              have hown2 := hm.own (p, 0) (.bin .cat e1' ex) el u (by
                show updL σ.live _ (p, 0) = _
                unfold updL
                cases g' with
                | none => simp [lk]
                | some g1 => simp [lk, Ne.symm (hgp g1 rfl)])
              exact hK _ _ _ (hs.step (o := o) (e := ⟨o.dst, ([], .one (.own (p, 0) (.bin .cat e1' ex) u)), [], (match g' with | some g => [(g, none)] | none => []) ++ [((p, 0), some (.bin .cat e1' ex, el, u))], [], items⟩) hlat (hm.congr (updL_nil _) rfl) rfl
                (by simp [SV.lt, SC.lt, E.lt, he1, y1]) (by simp)
                (by
                  intro _
                  simp only [condB, List.all_nil, if_true]
                  refine ⟨.inr rfl, by simp [E.lt, he1, y1, Cx.add], ?_, hown2.has, hτ.symm⟩
                  have := hown2.rep (by omega)
                  rw [hτ] at this; exact this) hdst)
            split at h
            · rename_i v
              split at h
              · rename_i hvu
                injection h with h; simp only [Prod.mk.injEq] at h; obtain ⟨rfl, rfl, rfl, rfl, rfl, rfl⟩ := h
                have hv := getV_ok hs.t (pc := []) rfl hsv
                refine main (.slice none 0 0) .nil none hv rfl ⟨[], [], rfl, by simp, World.ownsRow_nil w _ _ _, by simp, .inl ⟨rfl, rfl⟩⟩ hit hK
              · cases h
            · rename_i g0 e0 v
              split at h
              · rename_i e1' T' v' hlive
                split at h
                · rename_i hcnd2
                  obtain ⟨rfl, rfl, rfl, hge⟩ := hcnd2
                  injection h with h; simp only [Prod.mk.injEq] at h; obtain ⟨rfl, rfl, rfl, rfl, rfl, rfl⟩ := h
                  have hv := getV_ok hs.t (pc := []) rfl hsv
                  have hok := hs.m.own _ _ _ _ hlive
                  obtain ⟨xs, l1, hl1, hown, hfoot, hr⟩ := hok.own
                  have hh := hok.has
                  rw [hl1] at hh
                  obtain ⟨l1', hl1', _, hall1⟩ := has_list.1 hh
                  injection hl1' with hl1'; subst hl1'
                  exact main (G.τ g0) e1' (some g0) hv.2.2.2.2 hok.lt ⟨l1, xs, hl1, hall1, hown, hr, .inr ⟨g0, _, rfl, hlive, rfl, fun b hb o => (hfoot b hb o).trans (by rw [hge]; rfl)⟩⟩ hit hK
                · cases h
              · cases h
            · cases h
          · cases h
        · cases h
      · cases h
    · cases h
  · cases h

theorem stepped_appclip {ops : Array Oper} {e1 e2 : E} {T : TypeId} {t : Ty} {b : Nat} (hs : Sim n w0 S0 C G σ a w) (hp : ¬ C.M p) (hg : guardOf ops σ o = some [])
    (h : opAppClip P σ o = some (e1, e2, T, t, b)) (hit : ItemOk C Φ Pre (.room [] (.bin .cat e1 e2) b)) (hit2 : ItemOk C Φ Pre (.obl [] (.bin .lt (.kint .i64 0) (.un .len e2)))) (hdst : ∀ d, o.dst = some d → d < n) (items : List Item) (hfr : S0.fr → frOk P cs σ [] o = true) (hnw : ¬ S0.wz) :
    Stepped1 P n w0 S0 C ((⟨o.dst, ([], .one (.own (p, 0) (.bin .cat e1 e2) t)), [], [((p, 0), some (.bin .cat e1 e2, T, t))], [], items⟩ : Eff).app σ) p ops a w o := by
  intro K Q hK
  obtain ⟨hw, hc⟩ := guardOf_ok hs.t hg
  rw [hw, if_pos (show condB C.ρ [] = true from rfl)]
  unfold opAppClip at h
  split at h
  · rename_i args argTypes ho
    split at h
    · rename_i sx x tt tt' hargs hats
      split at h
      · rename_i el e1' v ex u hu hsv hx
        split at h
        · rename_i ie u' hie hu'
          split at h
          · rename_i hcnd
            obtain ⟨rfl, rfl, hwid, hpos, hscal, hzero, hbyt, rfl⟩ := hcnd
            injection h with h; simp only [Prod.mk.injEq] at h; obtain ⟨rfl, rfl, rfl, rfl, rfl⟩ := h
            obtain ⟨y1, y2, y3⟩ := getD_ok hs.t (pc := []) rfl hx
            obtain ⟨x1, x2, x3, ad, hvv⟩ := getV_ok hs.t (pc := []) rfl hsv
            obtain ⟨l1, hl1, hl1m, hall1⟩ := has_list.1 x3
            obtain ⟨l2, hl2, hl2m, hall2⟩ := has_list.1 y3
            have hk1 : ∀ d ∈ l1, d.cells.length = v.cells.length := fun d hd => (has_cells (hall1 d hd)).1
            have hk2 : ∀ d ∈ l2, d.cells.length = v.cells.length := fun d hd => (has_cells (hall2 d hd)).1
            obtain ⟨A1, c1, xs, hxv1, hA1, hxl, hxc, hxr⟩ := (hl1 ▸ x2).source hk1
            obtain ⟨A, c, news, hxv, hA, hnl, hnc, hnr⟩ := (hl2 ▸ y2).source hk2
            obtain ⟨z, hz, hzs⟩ : ∃ z, ie.zero = some z ∧ z.cells.size = ie.size := by
              cases hq : ie.zero with
              | none => simp [hq] at hzero
              | some z => exact ⟨z, rfl, by simpa [hq] using hzero⟩
            have hden : den C.ρ (.bin .cat e1' ex) = .list (l1 ++ l2) := by simp only [den, B.den, hl1, hl2, D.toL]
            obtain ⟨hr0, hr1⟩ := hit
            have hr2 := hr1 rfl
            rw [hden] at hr2
            simp only [D.toL, List.length_append] at hr2
            have hm0 : 0 < l2.length := by
              have := hit2.2 rfl
              simp only [den, B.den, U.den, hl2, D.toI, D.toB, D.toL, decide_eq_true_eq] at this
              omega
            -- it has just its own length
            have hcap : a.eval sx = .slice A1 l1.length l1.length := by
              rw [hl1] at hvv
              simp only [D.toL] at hvv
              rw [hvv] at hxv1 ⊢
              injection hxv1 with h1 h2 h3
              rw [h1]
            have hone : ∀ w ∈ news, w.oneCell' = true := by
              intro uu huu
              obtain ⟨q, hq⟩ := List.getElem?_of_mem huu
              have hql : q < news.length := (List.getElem?_eq_some_iff.1 hq).1
              have hwp : 0 < v.cells.length := by omega
              have hi : q / v.cells.length < l2.length := by rw [Nat.div_lt_iff_lt_mul hwp, ← hnl]; exact hql
              have hj : q % v.cells.length < v.cells.length := Nat.mod_lt _ hwp
              have hd : l2[q / v.cells.length]? = some (l2[q / v.cells.length]'hi) := List.getElem?_eq_getElem hi
              have hty : v.cells[q % v.cells.length]? = some (v.cells[q % v.cells.length]'hj) := List.getElem?_eq_getElem hj
              obtain ⟨cc, hcc, hcc2⟩ := (has_cells (hall2 _ (List.mem_of_getElem? hd))).2 _ _ hty
              have hqq : q / v.cells.length * v.cells.length + q % v.cells.length = q := by rw [Nat.mul_comm]; exact Nat.div_add_mod _ _
              exact (hnr _ _ _ uu cc hd hcc (by rw [hqq]; exact hq)).oneCell hcc2 (List.all_eq_true.1 hscal _ (List.getElem_mem hj))
            obtain ⟨v', w', hrun, hown', hcase⟩ : ∃ v' w', (Builtin.append_ #[tt, tt] o.type #[.slice A1 l1.length l1.length, .slice A l2.length c]).run P w = .ok v' w' ∧ w'.ownsRow 0 el v.cells.length v' (l1.length + l2.length) (xs ++ news) ∧
                ((v'.ownBlock = (Value.slice none 0 0).ownBlock ∧ w.grownBy w' (Value.slice none 0 0).ownBlock) ∨ (v'.ownBlock = some w.heap.size ∧ w.grownBy w' none)) := by
              cases A1 with
              | none =>
                have h0 := hA1 rfl
                have hx0 : xs = [] := List.eq_nil_of_length_eq_zero (by rw [hxl, h0]; simp)
                rw [h0, hx0]
                have hr3 := hr2
                rw [h0] at hr3
                exact run_append_cases (P := P) w 0 tt o.type el ie z v.cells.length hu hie hz hwid.symm (by rw [hzs, hwid]) (.slice none 0 0) 0 [] (World.ownsRow_nil w _ _ _) A l2.length c news hA hnl hnc hone hr3.1 hr3.2 (Nat.zero_le _)
              | some ad1 =>
                obtain ⟨v', w', q1, q2, q3, q4⟩ := run_append_clip (P := P) w tt o.type el ie z v.cells.length hu hie hz hwid.symm (by rw [hzs, hwid]) ad1 l1.length xs hxl (fun j u hj => hxc ad1 rfl j u hj) A l2.length c news hA hnl hnc hm0 hr2.1 hr2.2
                exact ⟨v', w', q1, q2, .inr ⟨q3, q4⟩⟩
            have hexec : (execOp a.eval o).run P w = .ok (.value v') w' := by
              have ha1 : args = #[sx, x] := by apply Array.ext'; simpa using hargs
              have ha2 : argTypes = #[tt, tt] := by apply Array.ext'; simpa using hats
              unfold execOp; simp only [ho, resolve, invoke, builtin, ha1, ha2]
              simp [hcap, hxv, hrun]
            unfold Oper.wp
            rw [hexec]
            obtain ⟨G', hlat, hm, hτ⟩ := hs.m.appended hp 0 (v := .slice none 0 0) (v' := v') (T := el) (t := v) (n := l1.length) (m := l2.length) (xs := xs) (news := news) (l := l1) (l2 := l2) (e2 := .bin .cat e1' ex)
              (by omega) rfl rfl hxr hnr hk1 hxl hown' hcase (updL σ.live [((p, 0), some (.bin .cat e1' ex, el, v))]) (.inl rfl)
              (by simp [E.lt, x1, y1]) hden (by rw [hden]; exact has_list.2 ⟨_, rfl, ⟨by simpa using hr2.1, by rw [← hbyt]; simpa using hr2.2⟩, fun d hd => by rcases List.mem_append.1 hd with h | h; exact hall1 d h; exact hall2 d h⟩)
              (by
                intro g0 x0 hx0
                unfold updL at hx0
                simp only [lk] at hx0
                by_cases he : g0 = (p, 0)
                · rw [if_pos he] at hx0; simp only [Option.some.injEq] at hx0; exact .inr ⟨he, hx0.symm⟩
                · rw [if_neg he] at hx0; exact .inl ⟨he, hx0⟩)
              (fun hff => by
                have h1 := hfr hff
                unfold frOk at h1
                simp only [ho, hargs, hats, hsv] at h1
                exact ⟨rfl, fun _ => valIn_elems h1 (by omega) hall1 hxl hxr, valIn_elems h1 (by omega) hall2 hnl hnr⟩) hnw
            have hown2 := hm.own (p, 0) (.bin .cat e1' ex) el v (by
              show updL σ.live _ (p, 0) = _
              unfold updL
              simp [lk])
            exact hK _ _ _ (hs.step (o := o) (e := ⟨o.dst, ([], .one (.own (p, 0) (.bin .cat e1' ex) v)), [], [((p, 0), some (.bin .cat e1' ex, el, v))], [], items⟩) hlat (hm.congr (updL_nil _) rfl) rfl
              (by simp [SV.lt, SC.lt, E.lt, x1, y1]) (by simp)
              (by
                intro _
                simp only [condB, List.all_nil, if_true]
                refine ⟨.inr rfl, by simp [E.lt, x1, y1, Cx.add], ?_, hown2.has, hτ.symm⟩
                have := hown2.rep (by omega)
                rw [hτ] at this; exact this) hdst)
          · cases h
        · cases h
      · cases h
    · cases h
  · cases h

end
end Go.Eng
