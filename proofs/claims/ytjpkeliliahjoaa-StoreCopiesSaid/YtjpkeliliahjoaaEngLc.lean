/-
  A call that is handed objects, as a step.
-/
import Derived.Test.YtjpkeliliahjoaaEngLb
namespace Go.Eng
open Go Go.RowKit

theorem hasL_append : ∀ {a b : List Ty} {x y : List D}, HasL (.ofL a) x → HasL (.ofL b) y → HasL (.ofL (a ++ b)) (x ++ y)
  | [], b, x, y, h, h' => by rw [has_nil.1 h]; exact h'
  | t :: a, b, x, y, h, h' => by
    obtain ⟨d, r, rfl, h1, h2⟩ := has_cons.1 h
    exact has_cons.2 ⟨d, r ++ y, rfl, h1, hasL_append h2 h'⟩

section
variable {P : Program} {C : Cx} {w w0 : World} {S0 : Base} {G : Gh} {σ : St} {a : Act} {o : Oper} {pc : Cond} {Φ : Nat → List D → D} {Pre : Nat → List D → Prop} {n p : Nat} {cs : Tbl}

theorem oArgs_ok (ht : SimT C w G σ.tm a) {pc : Cond} (hpc : condB C.ρ pc = true) {β : Nat → Nat} : ∀ {sh : List Bool} {l : List Operand} {ts : List TypeId} {es : List (E × Ty)} {ids : List Nat} {k : Nat}, oArgs P σ pc sh l ts = some (es, ids) → (∀ (i : Nat) id, ids[i]? = some id → β (k + i) = G.β id) →
    ArgsO w G.S β sh k (l.map a.eval) (es.map fun x => den C.ρ x.1) ∧ HasL (.ofL (es.map (·.2))) (es.map fun x => den C.ρ x.1)
  | [], [], [], es, ids, k, h, _ => by
    simp only [oArgs, Option.some.injEq, Prod.mk.injEq] at h
    obtain ⟨rfl, rfl⟩ := h
    exact ⟨trivial, has_nil.2 rfl⟩
  | false :: sh, x :: l, t :: ts, es, ids, k, h, hβ => by
    simp only [oArgs] at h
    split at h
    · rename_i e es' ids' h1 h2
      injection h with h; simp only [Prod.mk.injEq] at h; obtain ⟨rfl, rfl⟩ := h
      obtain ⟨q1, q2⟩ := oArgs_ok ht hpc h2 hβ
      obtain ⟨e1, t1⟩ := e
      obtain ⟨_, r1, r2⟩ := getD_ok ht hpc h1
      exact ⟨⟨r1, q1⟩, has_cons.2 ⟨_, _, rfl, r2, q2⟩⟩
    · cases h
  | true :: sh, x :: l, t :: ts, es, ids, k, h, hβ => by
    simp only [oArgs] at h
    split at h
    · rename_i id es' ids' h1 h2
      injection h with h; simp only [Prod.mk.injEq] at h; obtain ⟨rfl, rfl⟩ := h
      obtain ⟨q1, q2⟩ := oArgs_ok (k := k + 1) ht hpc h2 (fun i id' hi => by rw [show k + 1 + i = k + (i + 1) by omega]; exact hβ (i + 1) id' (by simpa using hi))
      have hv := (getV_ok ht hpc h1).2
      have hb : β k = G.β id := by simpa using hβ 0 id rfl
      exact ⟨⟨by rw [hv, hb], q1⟩, q2⟩
    · cases h
  | [], [], _ :: _, _, _, _, h, _ => by simp [oArgs] at h
  | [], _ :: _, ts, _, _, _, h, _ => by cases ts <;> simp [oArgs] at h
  | b :: _, [], ts, _, _, _, h, _ => by cases b <;> cases ts <;> simp [oArgs] at h
  | b :: _, _ :: _, [], _, _, _, h, _ => by cases b <;> simp [oArgs] at h

theorem oObjs_ok : ∀ {rcs : List (List RCell)} {ids : List Nat} {ess : List (List E)} {l : OwnL}, oObjs σ rcs ids = some (ess, l) →
    ess.length = rcs.length ∧ ids.length = rcs.length ∧ rcs.flatMap rcIdx = l.map (·.1) ∧ (∀ id ∈ ids, ∃ cs, σ.hp id = some (false, cs)) ∧ (∀ j g, (j, some g) ∈ l → ∃ z, σ.live g = some z) ∧
    ∀ (i : Nat) rc id es, rcs[i]? = some rc → ids[i]? = some id → ess[i]? = some es → ∃ cs lo, σ.hp id = some (false, cs) ∧ retCells σ rc cs = some (es, lo) ∧ ∀ x ∈ lo, x ∈ l
  | [], [], ess, l, h => by
    simp only [oObjs, Option.some.injEq, Prod.mk.injEq] at h
    obtain ⟨rfl, rfl⟩ := h
    exact ⟨rfl, rfl, rfl, by simp, by simp, by intro i rc id es hi; simp at hi⟩
  | rc :: r, id :: ids, ess, l, h => by
    simp only [oObjs] at h
    split at h
    · rename_i cs hid
      split at h
      · rename_i es l1 ess' l2 h1 h2
        injection h with h; simp only [Prod.mk.injEq] at h; obtain ⟨rfl, rfl⟩ := h
        obtain ⟨q1, q2, q3, q4, q5, q6⟩ := oObjs_ok h2
        refine ⟨by simp [q1], by simp [q2], ?_, ?_, ?_, ?_⟩
        · rw [List.flatMap_cons, q3, List.map_append, ← own_retCells h1]; rfl
        · simp only [List.mem_cons, forall_eq_or_imp]; exact ⟨⟨cs, hid⟩, q4⟩
        · intro j g hm
          rcases List.mem_append.1 hm with hm | hm
          · exact retCells_live h1 hm
          · exact q5 j g hm
        · intro i rc' id' es' hi hj hk
          cases i with
          | zero => simp at hi hj hk; subst hi; subst hj; subst hk; exact ⟨cs, l1, hid, h1, fun x hx => List.mem_append_left _ hx⟩
          | succ i =>
            obtain ⟨cs', lo, r1, r2, r3⟩ := q6 i rc' id' es' (by simpa using hi) (by simpa using hj) (by simpa using hk)
            exact ⟨cs', lo, r1, r2, fun x hx => List.mem_append_right _ (r3 x hx)⟩
      · cases h
    · cases h
  | [], _ :: _, _, _, h => by cases h
  | _ :: _, [], _, _, h => by cases h

theorem oHp_mem : ∀ {k : Nat} {ids : List Nat} {rcs : List (List RCell)} {id : Nat} {v : Option (Bool × List SC)}, (id, v) ∈ oHp p k ids rcs → ∃ (i : Nat) (rc : List RCell), ids[i]? = some id ∧ rcs[i]? = some rc ∧ v = some (false, cellsSC true p (.un (.cell (k + i)) (.var p)) 0 rc)
  | k, [], rcs, id, v, h => by cases rcs <;> simp [oHp] at h
  | k, _ :: _, [], id, v, h => by simp [oHp] at h
  | k, x :: ids, rc :: rcs, id, v, h => by
    simp only [oHp, List.mem_cons, Prod.mk.injEq] at h
    rcases h with ⟨rfl, rfl⟩ | h
    · exact ⟨0, rc, rfl, rfl, rfl⟩
    · obtain ⟨i, rc', h1, h2, h3⟩ := oHp_mem h
      exact ⟨i + 1, rc', by simpa using h1, by simpa using h2, by rw [h3, show k + 1 + i = k + (i + 1) by omega]⟩
theorem oHp_none {id : Nat} : ∀ {k : Nat} {ids : List Nat} {rcs : List (List RCell)}, lk (oHp p k ids rcs) id = none → ids.length ≤ rcs.length → id ∉ ids
  | k, [], rcs, _, _ => by simp
  | k, _ :: _, [], _, hl => by simp at hl
  | k, x :: ids, rc :: rcs, h, hl => by
    simp only [oHp, lk] at h
    split at h
    · cases h
    · rename_i hx
      simp only [List.mem_cons, not_or]
      exact ⟨hx, oHp_none h (by simpa using hl)⟩
theorem oLive_mem : ∀ {k : Nat} {rcs : List (List RCell)} {x : Tag × Option (E × TypeId × Ty)}, x ∈ oLive p k rcs → ∃ (i : Nat) (rc : List RCell), rcs[i]? = some rc ∧ x ∈ cellsLive p (.un (.cell (k + i)) (.var p)) 0 rc
  | k, [], x, h => by simp [oLive] at h
  | k, rc :: rcs, x, h => by
    simp only [oLive, List.mem_append] at h
    rcases h with h | h
    · exact ⟨0, rc, rfl, h⟩
    · obtain ⟨i, rc', h1, h2⟩ := oLive_mem h
      exact ⟨i + 1, rc', by simpa using h1, by rw [show k + (i + 1) = k + 1 + i by omega]; exact h2⟩
theorem lk_none_mem {α β : Type} [DecidableEq α] : ∀ {l : List (α × β)} {k : α}, lk l k = none → ∀ v, (k, v) ∉ l
  | [], k, _, v => by simp
  | (a, b) :: l, k, h, v => by
    simp only [lk] at h
    split at h
    · cases h
    · rename_i hk
      simp only [List.mem_cons, Prod.mk.injEq, not_or, not_and]
      exact ⟨fun e => absurd e hk, lk_none_mem h v⟩

theorem objs_has {w : World} {S : Foot} {τ : Nat → Value} : ∀ {rcs : List (List RCell)} {oo : List (List D)} {β : Nat → Nat} {k : Nat}, oo.length = rcs.length → (∀ (i : Nat) rc cells, rcs[i]? = some rc → oo[i]? = some cells → ObjOk w S τ rc (β (k + i)) cells) →
    HasL (.ofL (rcs.flatten.map rcTy)) oo.flatten
  | [], [], β, k, _, _ => has_nil.2 rfl
  | [], _ :: _, _, _, h, _ => by simp at h
  | _ :: _, [], _, _, h, _ => by simp at h
  | rc :: rcs, cells :: oo, β, k, hl, h => by
    obtain ⟨vals, T, _, h2, h3, h4, _⟩ := h 0 rc cells rfl rfl
    rw [List.flatten_cons, List.flatten_cons, List.map_append]
    refine hasL_append (hasL_mk (by simp [h3]) fun j u x hj hx => ?_) (objs_has (k := k + 1) (β := β) (by simpa using hl) (fun i rc' c' hi hc => by rw [show k + 1 + i = k + (i + 1) by omega]; exact h (i + 1) rc' c' (by simpa using hi) (by simpa using hc)))
    simp only [List.getElem?_map, Option.map_eq_some_iff] at hj
    obtain ⟨r, hr, rfl⟩ := hj
    have hjl : j < rc.length := (List.getElem?_eq_some_iff.1 hr).1
    have := h4 j r _ x hr (List.getElem?_eq_getElem (by omega)) hx
    obtain ⟨t, _ | ⟨j0, T0⟩⟩ := r
    · exact this.2
    · exact this.2.has

theorem stepped_ocall {ops : Array Oper} {x : OCall} (hs : Sim n w0 S0 C G σ a w) (hp : ¬ C.M p) (hpN : p < C.N) (hg : guardOf ops σ o = some pc) (hpc : condB C.ρ pc = true) (h : opOCall P cs σ pc o = some x)
    (hcon : ∀ k sig, lk cs.l k = some sig → PureFn P k sig (Pre k) (Φ k)) (hit : ItemOk C Φ Pre (.call p x.k x.args [])) (hlt : (x.eff p o.dst).ent.2.lt C.N = true) (hdst : ∀ d, o.dst = some d → d < n) (hnf : ¬ S0.fr) (hnw : ¬ S0.wz) :
    Stepped1 P n w0 S0 C ((x.eff p o.dst).app σ) p ops a w o := by
  intro K Q hK
  obtain ⟨hw, hc⟩ := guardOf_ok hs.t hg
  rw [hw, if_pos hpc]
  unfold opOCall at h
  split at h
  · rename_i f args argTypes ho
    split at h
    · rename_i fe k' hf
      split at h
      · rename_i sig hsig
        split at h
        · rename_i ob hob
          split at h
          · rename_i es ids hes
            split at h
            · rename_i ess l hobjs
              split at h
              · rename_i hcnd
                obtain ⟨hty, hidn, hown, hidx, hshape, holen, hsc, hidl⟩ := hcnd
                injection h with h; subst h
                obtain ⟨f1, f2, f3⟩ := getV_ok hs.t (pc := []) rfl hf
                obtain ⟨fl, hfl, hfh⟩ := has_fn.1 f3
                have hfl0 : fl = [] := has_nil.1 hfh
                subst hfl0
                obtain ⟨cvs, hfv, hclen, _⟩ := (hfl ▸ f2).inv_fn
                have hcv0 : cvs = [] := List.eq_nil_of_length_eq_zero hclen
                subst hcv0
                have hcontract := hcon _ _ hsig
                obtain ⟨q1, q2, q3, q4, q5, q6⟩ := oObjs_ok hobjs
                let β' : Nat → Nat := fun i => G.β (ids.getD i 0)
                have hβ' : ∀ (i : Nat) id, ids[i]? = some id → β' i = G.β id := fun i id hi => by show G.β (ids.getD i 0) = _; rw [List.getD_eq_getElem?_getD, hi]; rfl
                obtain ⟨hargs, hhasA⟩ := oArgs_ok (k := 0) (β := β') hs.t hpc hes (fun i id hi => by rw [Nat.zero_add]; exact hβ' i id hi)
                have hidM : ∀ id ∈ ids, C.M id := fun id hi => by obtain ⟨cs, hcs⟩ := q4 id hi; exact hs.m.boxM _ _ hcs
                have hpids : p ∉ ids := fun hi => hp (hidM p hi)
                have hnj : (l.map (·.1)).Nodup := by
                  unfold ownOkB at hown
                  simp only [Bool.and_eq_true, decide_eq_true_eq] at hown
                  exact hown.2
                let τ0 := τOf G l
                let dd := es.map fun x => den C.ρ x.1
                let oo := ess.map fun es => es.map (den C.ρ)
                have hden : (den C.ρ (.ofL (es.map (·.1) ++ ess.flatten))).toL = dd ++ oo.flatten := by
                  rw [den_ofL]
                  simp only [D.toL, List.map_append, List.map_map, dd, oo, List.map_flatten]
                  rfl
                have hobjsOk : ∀ (i : Nat) rc cells, ob.objs[i]? = some rc → oo[i]? = some cells → ObjOk w G.S τ0 rc (β' i) cells := by
                  intro i rc cells hi hcells
                  simp only [oo, List.getElem?_map, Option.map_eq_some_iff] at hcells
                  obtain ⟨ees, hees, rfl⟩ := hcells
                  have hil : i < ids.length := by rw [q2]; exact (List.getElem?_eq_some_iff.1 hi).1
                  have hid : ids[i]? = some ids[i] := List.getElem?_eq_getElem hil
                  obtain ⟨ccs, lo, r1, r2, r3⟩ := q6 i rc _ ees hi hid hees
                  obtain ⟨b1, b2, ⟨vs, T, b3, b4⟩, b5⟩ := hs.m.box _ _ _ r1
                  obtain ⟨k1, k2, k3⟩ := retCells_ok (L := l) hs.m hnj r2 b4 r3
                  rw [hβ' i _ hid]
                  refine ⟨vs, T, b3, k2, by simp [k1], fun j r v d hr hv hd => ?_, by simpa using b5⟩
                  simp only [List.getElem?_map, Option.map_eq_some_iff] at hd
                  obtain ⟨e, he, rfl⟩ := hd
                  exact k3 j r v e hr hv he
                have hin : ObjIn w G.S ob β' τ0 (args.toList.map a.eval) dd oo := by
                  refine ⟨hs.m.footlt, hargs, by simp [oo, q1], hobjsOk, ?_, ?_, ?_⟩
                  · intro i j hi hj he
                    have h1 : ids[i]? = some (ids[i]'(by omega)) := List.getElem?_eq_getElem _
                    have h2 : ids[j]? = some (ids[j]'(by omega)) := List.getElem?_eq_getElem _
                    rw [hβ' i _ h1, hβ' j _ h2] at he
                    obtain ⟨c1, hc1⟩ := q4 _ (List.getElem_mem (l := ids) (n := i) (by omega))
                    obtain ⟨c2, hc2⟩ := q4 _ (List.getElem_mem (l := ids) (n := j) (by omega))
                    have := hs.m.inj _ _ _ _ hc1 hc2 he
                    exact (List.getElem_inj hidn).1 this
                  · intro j k b hj hk hbj hbk
                    unfold Ob.inIdx at hj hk
                    rw [q3] at hj hk
                    exact own_apart hs.m hown q5 hj hk hbj hbk
                  · intro j i b hj hi hb he
                    unfold Ob.inIdx at hj
                    rw [q3] at hj
                    obtain ⟨g, hgl, hgb⟩ := own_tag hown hj hb
                    obtain ⟨z, hz⟩ := q5 _ _ hgl
                    have h1 : ids[i]? = some (ids[i]'(by omega)) := List.getElem?_eq_getElem _
                    obtain ⟨c1, hc1⟩ := q4 _ (List.getElem_mem (l := ids) (n := i) (by omega))
                    rw [hβ' i _ h1] at he
                    exact hs.m.ownbox g _ z _ b hz hc1 hgb he
                have hhas : HasL (.ofL sig.params) (dd ++ oo.flatten) := by
                  rw [← hty]
                  exact hasL_append hhasA (objs_has (k := 0) (β := β') (by simp [oo, q1]) (fun i rc cells hi hcl => by rw [Nat.zero_add]; exact hobjsOk i rc cells hi hcl))
                obtain ⟨_, _, hρ, hpre⟩ := hit
                have hpre' := hpre rfl
                rw [hden] at hρ hpre'
                have hrun : (execOp a.eval o).run P w = .ok (.enter k' (args.toList.map a.eval).toArray) w := by
                  have e1 : (args.toList.map a.eval).toArray = args.map a.eval := by apply Array.ext'; simp
                  unfold execOp; simp only [ho, resolve, hfv, Deferred.ofValue, e1]
                  have := hcontract.enter (args.map a.eval) w
                  simpa [invoke] using this
                unfold Oper.wp
                rw [hrun]
                have hnpl : ob.isPl = false := by
                  rw [Bool.eq_false_iff]; intro hpl
                  unfold Ob.isPl at hpl
                  simp only [Bool.and_eq_true, List.isEmpty_iff, beq_iff_eq] at hpl
                  obtain ⟨⟨_, h1⟩, h2⟩ := hpl
                  have h3 := holen
                  rw [h2, hidl, h1] at h3
                  cases hfr : ob.fresh <;> rw [hfr] at h3 <;> simp at h3
                refine (hcontract.ocalls ob hob hnpl w G.S β' τ0 _ dd oo hin hhas hpre').mono ?_
                rintro e' w' ⟨v, S', τ', βn, rfl, hout⟩
                simp only
                rw [← hρ] at hout
                obtain ⟨d0, outs, hd, hol, hres, hobjs'⟩ := hout.res
                let βx : Nat := if ob.fresh then βn else G.β p
                let G' : Gh := { S := S', β := upd G.β p βx, τ := fun g => if g.1 = p then τ' g.2 else G.τ g }
                have hτ : ∀ j, G'.τ (p, j) = τ' j := fun j => if_pos rfl
                have hM : (C.add p).M p := .inr rfl
                have hvp : (E.var p).lt C.N = true := by simpa [E.lt] using hpN
                have hltE : ∀ j, (E.un (.cell j) (.var p)).lt (C.add p).N = true := fun j => hvp
                have hltE2 : ∀ i j, (E.un (.cell j) (.un (.cell i) (.var p))).lt (C.add p).N = true := fun i j => hvp
                have hcell0 : den C.ρ (.un (.cell 0) (.var p)) = d0 := by simp only [den, U.den, hd, D.toL]; rfl
                have hcello : ∀ (i : Nat) cells, outs[i]? = some cells → den C.ρ (.un (.cell (1 + i)) (.var p)) = .agg cells := by
                  intro i cells hi
                  simp only [den, U.den, hd, D.toL]
                  exact toL_getD (by rw [Nat.add_comm]; simp [hi])
                have hG'β : ∀ id ∈ ids, G'.β id = G.β id := fun id hi => upd_ne _ _ (fun e => hpids (e ▸ hi))
                have hfl' : ob.fresh = true → βx = βn := fun hfr => by show (if ob.fresh then βn else G.β p) = βn; rw [if_pos hfr]
                -- the object behind the call, by its number
                have objN : ∀ (i : Nat) id rc, (ids ++ if ob.fresh then [p] else [])[i]? = some id → ob.outs[i]? = some rc → ∃ cells, outs[i]? = some cells ∧ ObjOk w' S' τ' rc (G'.β id) cells ∧ (id ∈ ids ∨ (id = p ∧ w.heap.size ≤ βx)) ∧ obAt ob β' βn i = G'.β id := by
                  intro i id rc hi hrc
                  have hoi : i < outs.length := by rw [hol]; exact (List.getElem?_eq_some_iff.1 hrc).1
                  have hoc : outs[i]? = some outs[i] := List.getElem?_eq_getElem hoi
                  have hko := hobjs' i rc _ hrc hoc
                  by_cases hlt2 : i < ids.length
                  · rw [List.getElem?_append_left hlt2] at hi
                    have hidm : id ∈ ids := List.mem_of_getElem? hi
                    have e1 : obAt ob β' βn i = G'.β id := by unfold obAt; rw [if_pos (by omega), hβ' i id hi, hG'β id hidm]
                    exact ⟨_, hoc, e1 ▸ hko, .inl hidm, e1⟩
                  · rw [List.getElem?_append_right (by omega)] at hi
                    cases hfr : ob.fresh with
                    | false => rw [hfr] at hi; simp at hi
                    | true =>
                      rw [hfr] at hi hres
                      simp only [if_true] at hi hres
                      have hi0 : i - ids.length = 0 := by
                        have := (List.getElem?_eq_some_iff.1 hi).1
                        simp at this; omega
                      rw [hi0] at hi
                      simp only [List.getElem?_cons_zero, Option.some.injEq] at hi
                      subst hi
                      have e1 : obAt ob β' βn i = G'.β p := by
                        unfold obAt
                        rw [if_neg (by omega)]
                        show βn = upd G.β p βx p
                        rw [upd_same, hfl' hfr]
                      exact ⟨_, hoc, e1 ▸ hko, .inr ⟨rfl, by rw [hfl' hfr]; exact hres.2⟩, e1⟩
                have hlive : ∀ y ∈ (if ob.fresh then [] else resLivex p (.un (.cell 0) (.var p)) sig.res) ++ oLive p 1 ob.outs, LiveOk (C.add p) w' 0 G' p (outIdx sig ob) y := by
                  intro y hy
                  rcases List.mem_append.1 hy with hy | hy
                  · cases hfr : ob.fresh with
                    | true => rw [hfr] at hy; simp at hy
                    | false =>
                      rw [hfr] at hy hres
                      simp only [Bool.false_eq_true, if_false] at hy hres
                      have hresC : ResOk w' 0 G'.S τ' sig.res v (den (C.add p).ρ (.un (.cell 0) (.var p))) := by
                        show ResOk w' 0 S' τ' sig.res v (den C.ρ _)
                        rw [hcell0]; exact hres
                      obtain ⟨z1, z2, z3⟩ := resLivex_ok (C := C.add p) (G := G') hresC hM (hltE _) hτ y hy
                      exact ⟨z1, List.mem_append_left _ z2, z3⟩
                  · obtain ⟨i, rc, hrc, hy⟩ := oLive_mem hy
                    obtain ⟨j, r, hr, hy⟩ := cellsLive_mem _ _ _ _ _ hy
                    have hil : i < (ids ++ if ob.fresh then [p] else []).length := by
                      have := (List.getElem?_eq_some_iff.1 hrc).1
                      rw [holen] at this
                      rw [List.length_append]
                      cases hfr : ob.fresh <;> simp [hfr] at this ⊢ <;> omega
                    obtain ⟨cells, hcl, ⟨vals, T, _, v2, v3, v4, _⟩, _, _⟩ := objN i _ rc (List.getElem?_eq_getElem hil) hrc
                    have hjl : j < rc.length := (List.getElem?_eq_some_iff.1 hr).1
                    have hdj : cells[j]? = some (cells[j]'(by omega)) := List.getElem?_eq_getElem _
                    have := v4 j r _ _ hr (List.getElem?_eq_getElem (by omega)) hdj
                    refine cellLive_ok (C := C.add p) (G := G') (idx := outIdx sig ob) this hM (hltE2 _ _) ?_ hτ (fun j0 T0 hj0 => ?_) y hy
                    · show den C.ρ (.un (.cell (0 + j)) (.un (.cell (1 + i)) (.var p))) = _
                      have e2 : den C.ρ (.un (.cell (0 + j)) (.un (.cell (1 + i)) (.var p))) = (U.cell (0 + j)).den (den C.ρ (.un (.cell (1 + i)) (.var p))) := rfl
                      rw [e2, hcello i _ hcl]
                      simp only [U.den, D.toL, Nat.zero_add]
                      exact toL_getD hdj
                    · unfold outIdx
                      refine List.mem_append_right _ (List.mem_flatMap.2 ⟨rc, List.mem_of_getElem? hrc, ?_⟩)
                      unfold rcIdx
                      exact List.mem_filterMap.2 ⟨r, List.mem_of_getElem? hr, by rw [hj0]; rfl⟩
                let kill : List Tag := l.filterMap (·.2)
                have hkills : ∀ g : Tag, ((g, none) : Tag × Option (E × TypeId × Ty)) ∈ (l.filterMap fun y => y.2.map fun g => ((g, none) : Tag × Option (E × TypeId × Ty))) ↔ g ∈ kill := by
                  intro g
                  simp only [List.mem_filterMap, kill]
                  constructor
                  · rintro ⟨y, hy, hy2⟩
                    cases hy3 : y.2 with
                    | none => rw [hy3] at hy2; cases hy2
                    | some g' => rw [hy3] at hy2; simp at hy2; subst hy2; exact ⟨y, hy, hy3⟩
                  · rintro ⟨y, hy, hy2⟩
                    exact ⟨y, hy, by rw [hy2]; rfl⟩
                have hkilln : ∀ g z, (g, some z) ∉ (l.filterMap fun y => y.2.map fun g => ((g, none) : Tag × Option (E × TypeId × Ty))) := by
                  intro g z hm
                  simp only [List.mem_filterMap] at hm
                  obtain ⟨y, _, hy2⟩ := hm
                  cases hy3 : y.2 with
                  | none => rw [hy3] at hy2; cases hy2
                  | some g' => rw [hy3] at hy2; simp at hy2
                have hkmem : ∀ g ∈ kill, ∃ j, (j, some g) ∈ l := by
                  intro g hg
                  simp only [kill, List.mem_filterMap] at hg
                  obtain ⟨⟨j, y⟩, hy, hy2⟩ := hg
                  simp only at hy2
                  subst hy2
                  exact ⟨j, hy⟩
                let eff : Eff := OCall.eff ⟨k', .ofL (es.map (·.1) ++ ess.flatten), sig, ob, ids, l⟩ p o.dst
                have hliveN : ∀ g z, updL σ.live eff.live g = some z → (g.1 ≠ p ∧ g ∉ kill ∧ σ.live g = some z) ∨ LiveOk (C.add p) w' 0 G' p (outIdx sig ob) (g, some z) := by
                  intro g z hz
                  unfold updL at hz
                  split at hz
                  · rename_i y hy
                    subst hz
                    have hmem := lk_mem hy
                    have hmem2 : (g, some z) ∈ (l.filterMap fun y => y.2.map fun g => ((g, none) : Tag × Option (E × TypeId × Ty))) ++ (if ob.fresh then [] else resLivex p (.un (.cell 0) (.var p)) sig.res) ++ oLive p 1 ob.outs := hmem
                    rw [List.append_assoc] at hmem2
                    rcases List.mem_append.1 hmem2 with hm | hm
                    · exact absurd hm (hkilln g z)
                    · exact .inr (hlive _ hm)
                  · rename_i hy
                    refine .inl ⟨fun e => hp (e ▸ (hs.m.own g z.1 z.2.1 z.2.2 hz).m), fun hk => ?_, hz⟩
                    refine lk_none_mem hy none ?_
                    show (g, none) ∈ (l.filterMap fun y => y.2.map fun g => ((g, none) : Tag × Option (E × TypeId × Ty))) ++ (if ob.fresh then [] else resLivex p (.un (.cell 0) (.var p)) sig.res) ++ oLive p 1 ob.outs
                    rw [List.append_assoc]
                    exact List.mem_append_left _ ((hkills g).2 hk)
                have hhpN : ∀ id z, updL σ.hp eff.hp id = some z → (id ∉ ids ∧ id ≠ p ∧ σ.hp id = some z) ∨ ∃ (i : Nat) (rc : List RCell), (ids ++ if ob.fresh then [p] else [])[i]? = some id ∧ ob.outs[i]? = some rc ∧ z = (false, cellsSC true p (.un (.cell (1 + i)) (.var p)) 0 rc) := by
                  intro id z hz
                  unfold updL at hz
                  split at hz
                  · rename_i y hy
                    subst hz
                    obtain ⟨i, rc, h1, h2, h3⟩ := oHp_mem (lk_mem hy)
                    injection h3 with h3
                    exact .inr ⟨i, rc, h1, h2, h3⟩
                  · rename_i hy
                    have hni := oHp_none (ids := ids ++ if ob.fresh then [p] else []) (rcs := ob.outs) hy (by rw [holen, List.length_append]; cases ob.fresh <;> simp)
                    refine .inl ⟨fun hi => hni (List.mem_append_left _ hi), ?_, hz⟩
                    rintro rfl
                    exact hp (hs.m.boxM _ _ hz)
                have hobAt : ∀ j id y z b, updL σ.live eff.live (p, j) = some y → updL σ.hp eff.hp id = some z → (id ∈ ids ∨ id = p) → (τ' j).ownBlock = some b → b ≠ G'.β id := by
                  intro j id y z b hy hz hid hb
                  rcases hliveN _ _ hy with ⟨h1, _⟩ | hlv
                  · exact absurd rfl h1
                  · rcases hhpN id z hz with ⟨h1, h2, _⟩ | ⟨i, rc, h1, h2, _⟩
                    · rcases hid with hid | hid
                      · exact absurd hid h1
                      · exact absurd hid h2
                    · obtain ⟨cells, _, _, _, he⟩ := objN i id rc h1 h2
                      rw [← he]
                      exact hout.ownbox j i b hlv.2.1 (List.getElem?_eq_some_iff.1 h2).1 hb
                obtain ⟨hlat, hm⟩ := hs.m.ocalled hp (τ' := τ') (βn := βx) (ids := ids) (kill := kill) (mu := MuO ob β' τ0) hout.below
                  (by
                    rintro b (⟨i, hi, rfl⟩ | ⟨j, hj, hb⟩)
                    · have h1 : ids[i]? = some (ids[i]'(by omega)) := List.getElem?_eq_getElem _
                      exact .inl ⟨_, List.getElem_mem (l := ids) (n := i) (by omega), hβ' i _ h1⟩
                    · unfold Ob.inIdx at hj
                      rw [q3] at hj
                      obtain ⟨g, hgl, hgb⟩ := own_tag hown hj hb
                      exact .inr ⟨g, List.mem_filterMap.2 ⟨_, hgl, rfl⟩, hgb⟩)
                  q4 (fun g hg => by obtain ⟨j, hj⟩ := hkmem g hg; exact q5 j g hj) hout.foot hout.lt hout.new hout.keep (updL σ.hp eff.hp) (updL σ.live eff.live) G' rfl
                  (by
                    intro id z hz
                    rcases hhpN id z hz with h1 | ⟨i, rc, h1, h2, rfl⟩
                    · exact .inl h1
                    · obtain ⟨cells, hcl, ⟨vals, T, v1, v2, v3, v4, v5⟩, hid, _⟩ := objN i id rc h1 h2
                      refine .inr ⟨rfl, hid, ?_, ⟨vals, T, v1, ?_, ?_⟩, v5⟩
                      · rw [List.all_eq_true]
                        intro c hcm
                        obtain ⟨j, hj⟩ := List.getElem?_of_mem hcm
                        rw [cellsSC_get] at hj
                        simp only [Option.map_eq_some_iff] at hj
                        obtain ⟨r, hr, rfl⟩ := hj
                        have := List.all_eq_true.1 (List.all_eq_true.1 hsc rc (List.mem_of_getElem? h2)) r (List.mem_of_getElem? hr)
                        obtain ⟨t, _ | ⟨j0, T0⟩⟩ := r
                        · exact this
                        · cases hej : exN j0 <;> simp [cellSC, hej, SC.scalar]
                      · rw [cellsSC_len, v2]
                      · intro j c u hj hu
                        rw [cellsSC_get] at hj
                        simp only [Option.map_eq_some_iff] at hj
                        obtain ⟨r, hr, rfl⟩ := hj
                        have hjl : j < rc.length := (List.getElem?_eq_some_iff.1 hr).1
                        have hdj : cells[j]? = some (cells[j]'(by omega)) := List.getElem?_eq_getElem _
                        refine cellSC_ok (C := C.add p) (G := G') (v4 j r u _ hr hu hdj) hM (hltE2 _ _) ?_ hτ true
                        show den C.ρ (.un (.cell (0 + j)) (.un (.cell (1 + i)) (.var p))) = _
                        have e2 : den C.ρ (.un (.cell (0 + j)) (.un (.cell (1 + i)) (.var p))) = (U.cell (0 + j)).den (den C.ρ (.un (.cell (1 + i)) (.var p))) := rfl
                        rw [e2, hcello i _ hcl]
                        simp only [U.den, D.toL, Nat.zero_add]
                        exact toL_getD hdj)
                  (by
                    intro g z hz
                    rcases hliveN g z hz with h1 | hlv
                    · exact .inl h1
                    · obtain ⟨z1, z2, e, T, t, z3, z4⟩ := hlv
                      injection z3 with z3; subst z3
                      exact .inr ⟨z1, z4, fun b hb => hout.ownnew g.2 b z2 hb⟩)
                  (by
                    intro j k y z b hy hz hb1 hb2
                    rcases hliveN _ _ hy with ⟨h1, _⟩ | hl1
                    · exact absurd rfl h1
                    · rcases hliveN _ _ hz with ⟨h1, _⟩ | hl2
                      · exact absurd rfl h1
                      · exact hout.own j k b hl1.2.1 hl2.2.1 hb1 hb2)
                  hobAt hnf hnw
                refine hK _ _ _ (hs.step (o := o) (e := eff) hlat (hm.congr rfl rfl) rfl hlt (by intro x hx; cases hx) ?_ hdst)
                intro _
                rw [if_pos (show condB C.ρ eff.ent.1 = true from rfl)]
                show RSV (C.add p) w' G' (if ob.fresh then .one (.adr p 0) else resSVx true p (.un (.cell 0) (.var p)) sig.res) v
                cases hfr : ob.fresh with
                | true =>
                  rw [hfr] at hres
                  simp only [if_true] at hres ⊢
                  refine ⟨hM, ?_⟩
                  rw [hres.1]
                  show _ = Value.pointer (some ⟨upd G.β p βx p, 0, none⟩)
                  rw [upd_same, hfl' hfr]
                | false =>
                  rw [hfr] at hres
                  simp only [Bool.false_eq_true, if_false] at hres ⊢
                  have hresC : ResOk w' 0 G'.S τ' sig.res v (den (C.add p).ρ (.un (.cell 0) (.var p))) := by
                    show ResOk w' 0 S' τ' sig.res v (den C.ρ _)
                    rw [hcell0]; exact hres
                  exact resSVx_ok (C := C.add p) (G := G') hresC hM (hltE _) hτ true
              · cases h
            · cases h
          · cases h
        · cases h
      · cases h
    · cases h
  · cases h
end
end Go.Eng
