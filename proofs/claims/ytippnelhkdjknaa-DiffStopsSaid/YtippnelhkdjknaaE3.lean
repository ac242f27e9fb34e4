/-
  A run of the code in plain data, and that it is sound (3).
-/
import Derived.Test.YtippnelhkdjknaaE2
/- A call that is handed objects: what it does to the symbolic state. -/
namespace Go.Eng
open Go Go.RowKit

section
variable {P : Program} {C : Cx} {w w0 : World} {S0 : Base} {G : Gh} {σ : St} {a : Act} {n p : Nat}

theorem SimM.ocalled (h : SimM w0 S0 C G σ w) (hp : ¬ C.M p) {w' : World} {S' : Foot} {τ' : Nat → Value} {βn : Nat} {ids : List Nat} {kill : List Tag} {mu : Nat → Prop}
    (hbel : BelowX mu w w') (hmu : ∀ b, mu b → (∃ id ∈ ids, b = G.β id) ∨ ∃ g ∈ kill, (G.τ g).ownBlock = some b)
    (hids : ∀ id ∈ ids, ∃ cs, σ.hp id = some (false, cs)) (hkill : ∀ g ∈ kill, ∃ x, σ.live g = some x)
    (hS : ∀ b o, G.S b o → S' b o) (hlt : ∀ b o, S' b o → b < w'.heap.size) (hnew : ∀ b o, S' b o → G.S b o ∨ w.heap.size ≤ b ∨ mu b) (hkeep : ∀ b o, G.S b o → w'.cell? ⟨b, o, none⟩ = w.cell? ⟨b, o, none⟩)
    (hp' : Nat → Option (Bool × List SC)) (live' : Tag → Option (E × TypeId × Ty)) (G' : Gh)
    (hG : G' = { S := S', β := upd G.β p βn, τ := fun g => if g.1 = p then τ' g.2 else G.τ g })
    (hhp : ∀ id x, hp' id = some x → (id ∉ ids ∧ id ≠ p ∧ σ.hp id = some x) ∨ (x.1 = false ∧ (id ∈ ids ∨ (id = p ∧ w.heap.size ≤ βn)) ∧ x.2.all SC.scalar = true ∧
      BlkOk S0.prog (C.add p) w' G' (G'.β id) x.2 ∧ ∀ o, ¬ S' (G'.β id) o))
    (hlive : ∀ g x, live' g = some x → (g.1 ≠ p ∧ g ∉ kill ∧ σ.live g = some x) ∨ (g.1 = p ∧ OwnOk (C.add p) w' 0 G' g x.1 x.2.1 x.2.2 ∧ ∀ b, (τ' g.2).ownBlock = some b → w.heap.size ≤ b ∨ mu b))
    (hdis : ∀ j k x y b, live' (p, j) = some x → live' (p, k) = some y → (τ' j).ownBlock = some b → (τ' k).ownBlock = some b → j = k)
    (hob : ∀ j id x y b, live' (p, j) = some x → hp' id = some y → (id ∈ ids ∨ id = p) → (τ' j).ownBlock = some b → b ≠ G'.β id) (hnf : ¬ S0.fr) (hnw : ¬ S0.wz) :
    Later C w G (C.add p) w' G' ∧ SimM w0 S0 (C.add p) G' { σ with hp := hp', live := live' } w' := by
  subst hG
  have hidM : ∀ id ∈ ids, C.M id := fun id hi => by obtain ⟨cs, hcs⟩ := hids id hi; exact h.boxM _ _ hcs
  have hβ : ∀ id, C.M id → upd G.β p βn id = G.β id := fun id hi => upd_ne _ _ (fun e => hp (e ▸ hi))
  have hτ : ∀ g : Tag, C.M g.1 → (if g.1 = p then τ' g.2 else G.τ g) = G.τ g := fun g hg => if_neg (fun e => hp (by rw [← e]; exact hg))
  have hmuN : ∀ b, mu b → NewB w0 S0 b ∧ b < w.heap.size := by
    intro b hb
    rcases hmu b hb with ⟨id, hid, rfl⟩ | ⟨g, hg, hgb⟩
    · obtain ⟨cs, hcs⟩ := hids id hid
      exact ⟨h.newB (h.box _ _ _ hcs).1, h.box_lt hcs⟩
    · obtain ⟨x, hx⟩ := hkill g hg
      exact ⟨h.ownnew g x b hx hgb, ((h.own g x.1 x.2.1 x.2.2 hx).lt_heap b hgb).2⟩
  have hlat : Later C w G (C.add p) w' { S := S', β := upd G.β p βn, τ := fun g => if g.1 = p then τ' g.2 else G.τ g } :=
    ⟨fun _ h => ⟨rfl, h⟩, fun _ h => .inl h, hS, hkeep, fun i hi => hβ i hi, fun g hg => hτ g hg⟩
  have oldbox : ∀ id x, id ∉ ids → σ.hp id = some x → ¬ mu (G.β id) := by
    intro id x hn hx hb
    rcases hmu _ hb with ⟨id2, h2, he⟩ | ⟨g, hg, hgb⟩
    · obtain ⟨cs, hcs⟩ := hids id2 h2
      exact hn (h.inj id id2 _ _ hx hcs he ▸ h2)
    · obtain ⟨y, hy⟩ := hkill g hg
      exact h.ownbox g id y x _ hy hx hgb rfl
  have oldown : ∀ g x b, g ∉ kill → σ.live g = some x → (G.τ g).ownBlock = some b → ¬ mu b := by
    intro g x b hn hx hgb hb
    rcases hmu _ hb with ⟨id2, h2, he⟩ | ⟨g2, hg2, hgb2⟩
    · obtain ⟨cs, hcs⟩ := hids id2 h2
      exact h.ownbox g id2 x _ b hx hcs hgb he
    · obtain ⟨y, hy⟩ := hkill g2 hg2
      exact hn (h.ownne g g2 x y b hx hy hgb hgb2 ▸ hg2)
  have hsz := h.below.size
  have key : ∀ i x, hp' i = some x → (C.M i ∧ (∃ x', σ.hp i = some x') ∧ upd G.β p βn i = G.β i) ∨ (i = p ∧ w.heap.size ≤ βn) := by
    intro i x hi
    rcases hhp i x hi with ⟨_, _, h2⟩ | ⟨_, h2 | h2, _⟩
    · exact .inl ⟨h.boxM _ _ h2, ⟨_, h2⟩, hβ _ (h.boxM _ _ h2)⟩
    · obtain ⟨cs, hcs⟩ := hids i h2
      exact .inl ⟨hidM i h2, ⟨_, hcs⟩, hβ _ (hidM i h2)⟩
    · exact .inr h2
  refine ⟨hlat, ⟨?_, fun b o hs => hS b o (h.foot0 b o hs), h.keep_later hlat, h.pin_later hlat, h.pinmu, hlt, ?_, ?_, ?_, ?_, ?_, ?_, ?_, ?_, fun h => absurd h hnf, fun h => absurd h hnw⟩⟩
  · refine ⟨hbel.os.trans h.below.os, hbel.tape.trans h.below.tape, hbel.output.trans h.below.output, Nat.le_trans hsz hbel.size, fun k hk hm => (hbel.block k (by omega) (fun hb => ?_)).trans (h.below.block k hk hm)⟩
    rcases (hmuN k hb).1 with h3 | h3
    · omega
    · exact hm h3
  · intro b o hs
    rcases hnew b o hs with h1 | h1 | h1
    · exact h.footnew b o h1
    · exact .inr (.inl (by omega))
    · exact .inr (hmuN b h1).1
  · intro id x hx
    rcases key id x hx with ⟨h1, _⟩ | ⟨rfl, _⟩
    · exact .inl h1
    · exact .inr rfl
  · intro id ro cs hx
    rcases hhp id _ hx with ⟨n1, n2, hx'⟩ | ⟨hf, hid, hsc, hcell, hns⟩
    · obtain ⟨b1, b2, b3, b5⟩ := h.box id ro cs hx'
      have hb := hβ id (h.boxM _ _ hx')
      have hnm := oldbox id _ n1 hx'
      have hlt' := h.box_lt hx'
      refine ⟨by show BoxB w0 S0 (upd G.β p βn id); rw [hb]; exact b1, b2, by show BlkOk S0.prog _ w' _ (upd G.β p βn id) cs; rw [hb]; exact b3.later hlat (hbel.block _ hlt' hnm), ?_⟩
      show if ro = true then ∀ o, o < cs.length → S' (upd G.β p βn id) o else ∀ o, ¬ S' (upd G.β p βn id) o
      rw [hb]
      cases ro with
      | true => simp only [if_true] at b5 ⊢; exact fun o ho => hS _ _ (b5 o ho)
      | false =>
        simp only [Bool.false_eq_true, if_false] at b5 ⊢
        intro o ho
        rcases hnew _ _ ho with h6 | h6 | h6
        · exact b5 o h6
        · omega
        · exact hnm h6
    · simp only at hf
      subst hf
      refine ⟨?_, hsc, hcell, by simp only [Bool.false_eq_true, if_false]; exact hns⟩
      show BoxB w0 S0 (upd G.β p βn id)
      rcases hid with hid | ⟨rfl, hβn⟩
      · rw [hβ id (hidM id hid)]
        obtain ⟨cs', hcs'⟩ := hids id hid
        exact (h.box _ _ _ hcs').1
      · rw [upd_same]; exact .inl (by omega)
  · intro i j x y hi hj he
    have he' : upd G.β p βn i = upd G.β p βn j := he
    rcases key i x hi with ⟨_, ⟨x', hx'⟩, e1⟩ | ⟨rfl, e1⟩ <;> rcases key j y hj with ⟨_, ⟨y', hy'⟩, e2⟩ | ⟨rfl, e2⟩
    · rw [e1, e2] at he'
      exact h.inj i j _ _ hx' hy' he'
    · rw [e1, upd_same] at he'
      have := h.box_lt hx'
      omega
    · rw [e2, upd_same] at he'
      have := h.box_lt hy'
      omega
    · rfl
  · intro g e T t hx
    rcases hlive g _ hx with ⟨h1, h2, h3⟩ | ⟨h1, h2, _⟩
    · have ho := h.own g e T t h3
      refine ho.later hlat (fun b hb => hbel.block b (ho.lt_heap b hb).2 (oldown g _ b h2 h3 hb)) (fun b hb o hs => ?_)
      rcases hnew b o hs with h6 | h6 | h6
      · exact h6
      · have := (ho.lt_heap b hb).2; omega
      · exact absurd h6 (oldown g _ b h2 h3 hb)
    · exact h2
  · intro g x b hx hgb
    rcases hlive g _ hx with ⟨h1, h2, h3⟩ | ⟨h1, _, h2⟩
    · simp only [if_neg h1] at hgb
      exact h.ownnew g x b h3 hgb
    · simp only [if_pos h1] at hgb
      rcases h2 b hgb with h4 | h4
      · exact .inl (by omega)
      · exact (hmuN b h4).1
  · intro g g' x y b hx hy hgb hgb'
    rcases hlive g _ hx with ⟨h1, h2, h3⟩ | ⟨h1, _, h2⟩ <;> rcases hlive g' _ hy with ⟨h4, h5, h6⟩ | ⟨h4, _, h5⟩
    · simp only [if_neg h1] at hgb; simp only [if_neg h4] at hgb'
      exact h.ownne g g' x y b h3 h6 hgb hgb'
    · simp only [if_neg h1] at hgb; simp only [if_pos h4] at hgb'
      rcases h5 b hgb' with h7 | h7
      · have := ((h.own g x.1 x.2.1 x.2.2 h3).lt_heap b hgb).2; omega
      · exact absurd h7 (oldown g x b h2 h3 hgb)
    · simp only [if_pos h1] at hgb; simp only [if_neg h4] at hgb'
      rcases h2 b hgb with h7 | h7
      · have := ((h.own g' y.1 y.2.1 y.2.2 h6).lt_heap b hgb').2; omega
      · exact absurd h7 (oldown g' y b h5 h6 hgb')
    · obtain ⟨g1, j⟩ := g
      obtain ⟨g2, k⟩ := g'
      simp only at h1 h4
      subst h1; subst h4
      simp only [if_true] at hgb hgb'
      rw [hdis j k x y b hx hy hgb hgb']
  · intro g id x y b hx hy hgb
    show b ≠ upd G.β p βn id
    rcases hlive g _ hx with ⟨h1, h2, h3⟩ | ⟨h1, _, h2⟩
    · simp only [if_neg h1] at hgb
      rcases key id y hy with ⟨_, ⟨y', hy'⟩, e2⟩ | ⟨rfl, e2⟩
      · rw [e2]; exact h.ownbox g id x y' b h3 hy' hgb
      · rw [upd_same]
        have := ((h.own g x.1 x.2.1 x.2.2 h3).lt_heap b hgb).2; omega
    · obtain ⟨g1, j⟩ := g
      simp only at h1
      subst h1
      simp only [if_true] at hgb
      rcases hhp id y hy with ⟨n1, n2, hx'⟩ | ⟨_, hid, _⟩
      · rw [hβ id (h.boxM _ _ hx')]
        intro he
        have := h.box_lt hx'
        rcases h2 b hgb with h7 | h7
        · omega
        · rw [he] at h7; exact oldbox id _ n1 hx' h7
      · exact hob j id x y b hx hy (hid.imp (fun h => h) And.left) hgb

end
end Go.Eng
/- A call that is handed objects, as a step. -/
namespace Go.Eng
open Go Go.RowKit

theorem hasL_append : ∀ {a b : List Ty} {x y : List D}, HasL (.ofL a) x → HasL (.ofL b) y → HasL (.ofL (a ++ b)) (x ++ y)
  | [], b, x, y, h, h' => by rw [has_nil.1 h]; exact h'
  | t :: a, b, x, y, h, h' => by
    obtain ⟨d, r, rfl, h1, h2⟩ := has_cons.1 h
    exact has_cons.2 ⟨d, r ++ y, rfl, h1, hasL_append h2 h'⟩

section
variable {P : Program} {C : Cx} {w w0 : World} {S0 : Base} {G : Gh} {σ : St} {a : Act} {o : Oper} {pc : Cond} {Φ : Nat → List D → D} {Pre : Nat → List D → Prop} {n p : Nat} {cs : Tbl}

theorem oArgs_ok (ht : SimT C w G σ.tm a) {pc : Cond} (hpc : condB C.ρ pc = true) {β : Nat → Nat} : ∀ {sh : List Bool} {l : List Operand} {ts : List TypeId} {es : List (E × Ty)} {ids : List Nat} {k : Nat}, oArgs P σ pc sh l ts = some (es, ids) → (∀ (i : Nat) id, ids[i]? = some id → β (k + i) = G.β id) →
    ArgsO w G.S β sh k (l.map a.eval) (es.map fun x => den C.ρ x.1) ∧ HasL (.ofL (es.map (·.2))) (es.map fun x => den C.ρ x.1)
  | [], [], [], es, ids, k, h, _ => by
    simp only [oArgs, Option.some.injEq, Prod.mk.injEq] at h
    obtain ⟨rfl, rfl⟩ := h
    exact ⟨trivial, has_nil.2 rfl⟩
  | false :: sh, x :: l, t :: ts, es, ids, k, h, hβ => by
    simp only [oArgs] at h
    split at h
    · rename_i e es' ids' h1 h2
      injection h with h; simp only [Prod.mk.injEq] at h; obtain ⟨rfl, rfl⟩ := h
      obtain ⟨q1, q2⟩ := oArgs_ok ht hpc h2 hβ
      obtain ⟨e1, t1⟩ := e
      obtain ⟨_, r1, r2⟩ := getD_ok ht hpc h1
      exact ⟨⟨r1, q1⟩, has_cons.2 ⟨_, _, rfl, r2, q2⟩⟩
    · cases h
  | true :: sh, x :: l, t :: ts, es, ids, k, h, hβ => by
    simp only [oArgs] at h
    split at h
    · rename_i id es' ids' h1 h2
      injection h with h; simp only [Prod.mk.injEq] at h; obtain ⟨rfl, rfl⟩ := h
      obtain ⟨q1, q2⟩ := oArgs_ok (k := k + 1) ht hpc h2 (fun i id' hi => by rw [show k + 1 + i = k + (i + 1) by omega]; exact hβ (i + 1) id' (by simpa using hi))
      have hv := (getV_ok ht hpc h1).2
      have hb : β k = G.β id := by simpa using hβ 0 id rfl
      exact ⟨⟨by rw [hv, hb], q1⟩, q2⟩
    · cases h
  | [], [], _ :: _, _, _, _, h, _ => by simp [oArgs] at h
  | [], _ :: _, ts, _, _, _, h, _ => by cases ts <;> simp [oArgs] at h
  | b :: _, [], ts, _, _, _, h, _ => by cases b <;> cases ts <;> simp [oArgs] at h
  | b :: _, _ :: _, [], _, _, _, h, _ => by cases b <;> simp [oArgs] at h

theorem oObjs_ok : ∀ {rcs : List (List RCell)} {ids : List Nat} {ess : List (List E)} {l : OwnL}, oObjs σ rcs ids = some (ess, l) →
    ess.length = rcs.length ∧ ids.length = rcs.length ∧ rcs.flatMap rcIdx = l.map (·.1) ∧ (∀ id ∈ ids, ∃ cs, σ.hp id = some (false, cs)) ∧ (∀ j g, (j, some g) ∈ l → ∃ z, σ.live g = some z) ∧
    ∀ (i : Nat) rc id es, rcs[i]? = some rc → ids[i]? = some id → ess[i]? = some es → ∃ cs lo, σ.hp id = some (false, cs) ∧ retCells σ rc cs = some (es, lo) ∧ ∀ x ∈ lo, x ∈ l
  | [], [], ess, l, h => by
    simp only [oObjs, Option.some.injEq, Prod.mk.injEq] at h
    obtain ⟨rfl, rfl⟩ := h
    exact ⟨rfl, rfl, rfl, by simp, by simp, by intro i rc id es hi; simp at hi⟩
  | rc :: r, id :: ids, ess, l, h => by
    simp only [oObjs] at h
    split at h
    · rename_i cs hid
      split at h
      · rename_i es l1 ess' l2 h1 h2
        injection h with h; simp only [Prod.mk.injEq] at h; obtain ⟨rfl, rfl⟩ := h
        obtain ⟨q1, q2, q3, q4, q5, q6⟩ := oObjs_ok h2
        refine ⟨by simp [q1], by simp [q2], ?_, ?_, ?_, ?_⟩
        · rw [List.flatMap_cons, q3, List.map_append, ← own_retCells h1]; rfl
        · simp only [List.mem_cons, forall_eq_or_imp]; exact ⟨⟨cs, hid⟩, q4⟩
        · intro j g hm
          rcases List.mem_append.1 hm with hm | hm
          · exact retCells_live h1 hm
          · exact q5 j g hm
        · intro i rc' id' es' hi hj hk
          cases i with
          | zero => simp at hi hj hk; subst hi; subst hj; subst hk; exact ⟨cs, l1, hid, h1, fun x hx => List.mem_append_left _ hx⟩
          | succ i =>
            obtain ⟨cs', lo, r1, r2, r3⟩ := q6 i rc' id' es' (by simpa using hi) (by simpa using hj) (by simpa using hk)
            exact ⟨cs', lo, r1, r2, fun x hx => List.mem_append_right _ (r3 x hx)⟩
      · cases h
    · cases h
  | [], _ :: _, _, _, h => by cases h
  | _ :: _, [], _, _, h => by cases h

theorem oHp_mem : ∀ {k : Nat} {ids : List Nat} {rcs : List (List RCell)} {id : Nat} {v : Option (Bool × List SC)}, (id, v) ∈ oHp p k ids rcs → ∃ (i : Nat) (rc : List RCell), ids[i]? = some id ∧ rcs[i]? = some rc ∧ v = some (false, cellsSC true p (.un (.cell (k + i)) (.var p)) 0 rc)
  | k, [], rcs, id, v, h => by cases rcs <;> simp [oHp] at h
  | k, _ :: _, [], id, v, h => by simp [oHp] at h
  | k, x :: ids, rc :: rcs, id, v, h => by
    simp only [oHp, List.mem_cons, Prod.mk.injEq] at h
    rcases h with ⟨rfl, rfl⟩ | h
    · exact ⟨0, rc, rfl, rfl, rfl⟩
    · obtain ⟨i, rc', h1, h2, h3⟩ := oHp_mem h
      exact ⟨i + 1, rc', by simpa using h1, by simpa using h2, by rw [h3, show k + 1 + i = k + (i + 1) by omega]⟩
theorem oHp_none {id : Nat} : ∀ {k : Nat} {ids : List Nat} {rcs : List (List RCell)}, lk (oHp p k ids rcs) id = none → ids.length ≤ rcs.length → id ∉ ids
  | k, [], rcs, _, _ => by simp
  | k, _ :: _, [], _, hl => by simp at hl
  | k, x :: ids, rc :: rcs, h, hl => by
    simp only [oHp, lk] at h
    split at h
    · cases h
    · rename_i hx
      simp only [List.mem_cons, not_or]
      exact ⟨hx, oHp_none h (by simpa using hl)⟩
theorem oLive_mem : ∀ {k : Nat} {rcs : List (List RCell)} {x : Tag × Option (E × TypeId × Ty)}, x ∈ oLive p k rcs → ∃ (i : Nat) (rc : List RCell), rcs[i]? = some rc ∧ x ∈ cellsLive p (.un (.cell (k + i)) (.var p)) 0 rc
  | k, [], x, h => by simp [oLive] at h
  | k, rc :: rcs, x, h => by
    simp only [oLive, List.mem_append] at h
    rcases h with h | h
    · exact ⟨0, rc, rfl, h⟩
    · obtain ⟨i, rc', h1, h2⟩ := oLive_mem h
      exact ⟨i + 1, rc', by simpa using h1, by rw [show k + (i + 1) = k + 1 + i by omega]; exact h2⟩
theorem lk_none_mem {α β : Type} [DecidableEq α] : ∀ {l : List (α × β)} {k : α}, lk l k = none → ∀ v, (k, v) ∉ l
  | [], k, _, v => by simp
  | (a, b) :: l, k, h, v => by
    simp only [lk] at h
    split at h
    · cases h
    · rename_i hk
      simp only [List.mem_cons, Prod.mk.injEq, not_or, not_and]
      exact ⟨fun e => absurd e hk, lk_none_mem h v⟩

theorem objs_has {w : World} {S : Foot} {τ : Nat → Value} : ∀ {rcs : List (List RCell)} {oo : List (List D)} {β : Nat → Nat} {k : Nat}, oo.length = rcs.length → (∀ (i : Nat) rc cells, rcs[i]? = some rc → oo[i]? = some cells → ObjOk w S τ rc (β (k + i)) cells) →
    HasL (.ofL (rcs.flatten.map rcTy)) oo.flatten
  | [], [], β, k, _, _ => has_nil.2 rfl
  | [], _ :: _, _, _, h, _ => by simp at h
  | _ :: _, [], _, _, h, _ => by simp at h
  | rc :: rcs, cells :: oo, β, k, hl, h => by
    obtain ⟨vals, T, _, h2, h3, h4, _⟩ := h 0 rc cells rfl rfl
    rw [List.flatten_cons, List.flatten_cons, List.map_append]
    refine hasL_append (hasL_mk (by simp [h3]) fun j u x hj hx => ?_) (objs_has (k := k + 1) (β := β) (by simpa using hl) (fun i rc' c' hi hc => by rw [show k + 1 + i = k + (i + 1) by omega]; exact h (i + 1) rc' c' (by simpa using hi) (by simpa using hc)))
    simp only [List.getElem?_map, Option.map_eq_some_iff] at hj
    obtain ⟨r, hr, rfl⟩ := hj
    have hjl : j < rc.length := (List.getElem?_eq_some_iff.1 hr).1
    have := h4 j r _ x hr (List.getElem?_eq_getElem (by omega)) hx
    obtain ⟨t, _ | ⟨j0, T0⟩⟩ := r
    · exact this.2
    · exact this.2.has

theorem stepped_ocall {ops : Array Oper} {x : OCall} (hs : Sim n w0 S0 C G σ a w) (hp : ¬ C.M p) (hpN : p < C.N) (hg : guardOf ops σ o = some pc) (hpc : condB C.ρ pc = true) (h : opOCall P cs σ pc o = some x)
    (hcon : ∀ k sig, lk cs.l k = some sig → PureFn P k sig (Pre k) (Φ k)) (hit : ItemOk C Φ Pre (.call p x.k x.args [])) (hlt : (x.eff p o.dst).ent.2.lt C.N = true) (hdst : ∀ d, o.dst = some d → d < n) (hnf : ¬ S0.fr) (hnw : ¬ S0.wz) :
    Stepped1 P n w0 S0 C ((x.eff p o.dst).app σ) p ops a w o := by
  intro K Q hK
  obtain ⟨hw, hc⟩ := guardOf_ok hs.t hg
  rw [hw, if_pos hpc]
  unfold opOCall at h
  split at h
  · rename_i f args argTypes ho
    split at h
    · rename_i fe k' hf
      split at h
      · rename_i sig hsig
        split at h
        · rename_i ob hob
          split at h
          · rename_i es ids hes
            split at h
            · rename_i ess l hobjs
              split at h
              · rename_i hcnd
                obtain ⟨hty, hidn, hown, hidx, hshape, holen, hsc, hidl⟩ := hcnd
                injection h with h; subst h
                obtain ⟨f1, f2, f3⟩ := getV_ok hs.t (pc := []) rfl hf
                obtain ⟨fl, hfl, hfh⟩ := has_fn.1 f3
                have hfl0 : fl = [] := has_nil.1 hfh
                subst hfl0
                obtain ⟨cvs, hfv, hclen, _⟩ := (hfl ▸ f2).inv_fn
                have hcv0 : cvs = [] := List.eq_nil_of_length_eq_zero hclen
                subst hcv0
                have hcontract := hcon _ _ hsig
                obtain ⟨q1, q2, q3, q4, q5, q6⟩ := oObjs_ok hobjs
                let β' : Nat → Nat := fun i => G.β (ids.getD i 0)
                have hβ' : ∀ (i : Nat) id, ids[i]? = some id → β' i = G.β id := fun i id hi => by show G.β (ids.getD i 0) = _; rw [List.getD_eq_getElem?_getD, hi]; rfl
                obtain ⟨hargs, hhasA⟩ := oArgs_ok (k := 0) (β := β') hs.t hpc hes (fun i id hi => by rw [Nat.zero_add]; exact hβ' i id hi)
                have hidM : ∀ id ∈ ids, C.M id := fun id hi => by obtain ⟨cs, hcs⟩ := q4 id hi; exact hs.m.boxM _ _ hcs
                have hpids : p ∉ ids := fun hi => hp (hidM p hi)
                have hnj : (l.map (·.1)).Nodup := by
                  unfold ownOkB at hown
                  simp only [Bool.and_eq_true, decide_eq_true_eq] at hown
                  exact hown.2
                let τ0 := τOf G l
                let dd := es.map fun x => den C.ρ x.1
                let oo := ess.map fun es => es.map (den C.ρ)
                have hden : (den C.ρ (.ofL (es.map (·.1) ++ ess.flatten))).toL = dd ++ oo.flatten := by
                  rw [den_ofL]
                  simp only [D.toL, List.map_append, List.map_map, dd, oo, List.map_flatten]
                  rfl
                have hobjsOk : ∀ (i : Nat) rc cells, ob.objs[i]? = some rc → oo[i]? = some cells → ObjOk w G.S τ0 rc (β' i) cells := by
                  intro i rc cells hi hcells
                  simp only [oo, List.getElem?_map, Option.map_eq_some_iff] at hcells
                  obtain ⟨ees, hees, rfl⟩ := hcells
                  have hil : i < ids.length := by rw [q2]; exact (List.getElem?_eq_some_iff.1 hi).1
                  have hid : ids[i]? = some ids[i] := List.getElem?_eq_getElem hil
                  obtain ⟨ccs, lo, r1, r2, r3⟩ := q6 i rc _ ees hi hid hees
                  obtain ⟨b1, b2, hblk, b5⟩ := hs.m.box _ _ _ r1
                  obtain ⟨vs, T, b3, b4⟩ := hblk.cells (retCells_notMap r2)
                  obtain ⟨k1, k2, k3⟩ := retCells_ok (L := l) hs.m hnj r2 b4 r3
                  rw [hβ' i _ hid]
                  refine ⟨vs, T, b3, k2, by simp [k1], fun j r v d hr hv hd => ?_, by simpa using b5⟩
                  simp only [List.getElem?_map, Option.map_eq_some_iff] at hd
                  obtain ⟨e, he, rfl⟩ := hd
                  exact k3 j r v e hr hv he
                have hin : ObjIn w G.S ob β' τ0 (args.toList.map a.eval) dd oo := by
                  refine ⟨hs.m.footlt, hargs, by simp [oo, q1], hobjsOk, ?_, ?_, ?_⟩
                  · intro i j hi hj he
                    have h1 : ids[i]? = some (ids[i]'(by omega)) := List.getElem?_eq_getElem _
                    have h2 : ids[j]? = some (ids[j]'(by omega)) := List.getElem?_eq_getElem _
                    rw [hβ' i _ h1, hβ' j _ h2] at he
                    obtain ⟨c1, hc1⟩ := q4 _ (List.getElem_mem (l := ids) (n := i) (by omega))
                    obtain ⟨c2, hc2⟩ := q4 _ (List.getElem_mem (l := ids) (n := j) (by omega))
                    have := hs.m.inj _ _ _ _ hc1 hc2 he
                    exact (List.getElem_inj hidn).1 this
                  · intro j k b hj hk hbj hbk
                    unfold Ob.inIdx at hj hk
                    rw [q3] at hj hk
                    exact own_apart hs.m hown q5 hj hk hbj hbk
                  · intro j i b hj hi hb he
                    unfold Ob.inIdx at hj
                    rw [q3] at hj
                    obtain ⟨g, hgl, hgb⟩ := own_tag hown hj hb
                    obtain ⟨z, hz⟩ := q5 _ _ hgl
                    have h1 : ids[i]? = some (ids[i]'(by omega)) := List.getElem?_eq_getElem _
                    obtain ⟨c1, hc1⟩ := q4 _ (List.getElem_mem (l := ids) (n := i) (by omega))
                    rw [hβ' i _ h1] at he
                    exact hs.m.ownbox g _ z _ b hz hc1 hgb he
                have hhas : HasL (.ofL sig.params) (dd ++ oo.flatten) := by
                  rw [← hty]
                  exact hasL_append hhasA (objs_has (k := 0) (β := β') (by simp [oo, q1]) (fun i rc cells hi hcl => by rw [Nat.zero_add]; exact hobjsOk i rc cells hi hcl))
                obtain ⟨_, _, hρ, hpre⟩ := hit
                have hpre' := hpre rfl
                rw [hden] at hρ hpre'
                have hrun : (execOp a.eval o).run P w = .ok (.enter k' (args.toList.map a.eval).toArray) w := by
                  have e1 : (args.toList.map a.eval).toArray = args.map a.eval := by apply Array.ext'; simp
                  unfold execOp; simp only [ho, resolve, hfv, Deferred.ofValue, e1]
                  have := hcontract.enter (args.map a.eval) w
                  simpa [invoke] using this
                unfold Oper.wp
                rw [hrun]
                have hnpl : ob.isPl = false := by
                  rw [Bool.eq_false_iff]; intro hpl
                  unfold Ob.isPl at hpl
                  simp only [Bool.and_eq_true, List.isEmpty_iff, beq_iff_eq] at hpl
                  obtain ⟨⟨_, h1⟩, h2⟩ := hpl
                  have h3 := holen
                  rw [h2, hidl, h1] at h3
                  cases hfr : ob.fresh <;> rw [hfr] at h3 <;> simp at h3
                refine (hcontract.ocalls ob hob hnpl w G.S β' τ0 _ dd oo hin hhas hpre').mono ?_
                rintro e' w' ⟨v, S', τ', βn, rfl, hout⟩
                simp only
                rw [← hρ] at hout
                obtain ⟨d0, outs, hd, hol, hres, hobjs'⟩ := hout.res
                let βx : Nat := if ob.fresh then βn else G.β p
                let G' : Gh := { S := S', β := upd G.β p βx, τ := fun g => if g.1 = p then τ' g.2 else G.τ g }
                have hτ : ∀ j, G'.τ (p, j) = τ' j := fun j => if_pos rfl
                have hM : (C.add p).M p := .inr rfl
                have hvp : (E.var p).lt C.N = true := by simpa [E.lt] using hpN
                have hltE : ∀ j, (E.un (.cell j) (.var p)).lt (C.add p).N = true := fun j => hvp
                have hltE2 : ∀ i j, (E.un (.cell j) (.un (.cell i) (.var p))).lt (C.add p).N = true := fun i j => hvp
                have hcell0 : den C.ρ (.un (.cell 0) (.var p)) = d0 := by simp only [den, U.den, hd, D.toL]; rfl
                have hcello : ∀ (i : Nat) cells, outs[i]? = some cells → den C.ρ (.un (.cell (1 + i)) (.var p)) = .agg cells := by
                  intro i cells hi
                  simp only [den, U.den, hd, D.toL]
                  exact toL_getD (by rw [Nat.add_comm]; simp [hi])
                have hG'β : ∀ id ∈ ids, G'.β id = G.β id := fun id hi => upd_ne _ _ (fun e => hpids (e ▸ hi))
                have hfl' : ob.fresh = true → βx = βn := fun hfr => by show (if ob.fresh then βn else G.β p) = βn; rw [if_pos hfr]
                -- the object behind the call, by its number
                have objN : ∀ (i : Nat) id rc, (ids ++ if ob.fresh then [p] else [])[i]? = some id → ob.outs[i]? = some rc → ∃ cells, outs[i]? = some cells ∧ ObjOk w' S' τ' rc (G'.β id) cells ∧ (id ∈ ids ∨ (id = p ∧ w.heap.size ≤ βx)) ∧ obAt ob β' βn i = G'.β id := by
                  intro i id rc hi hrc
                  have hoi : i < outs.length := by rw [hol]; exact (List.getElem?_eq_some_iff.1 hrc).1
                  have hoc : outs[i]? = some outs[i] := List.getElem?_eq_getElem hoi
                  have hko := hobjs' i rc _ hrc hoc
                  by_cases hlt2 : i < ids.length
                  · rw [List.getElem?_append_left hlt2] at hi
                    have hidm : id ∈ ids := List.mem_of_getElem? hi
                    have e1 : obAt ob β' βn i = G'.β id := by unfold obAt; rw [if_pos (by omega), hβ' i id hi, hG'β id hidm]
                    exact ⟨_, hoc, e1 ▸ hko, .inl hidm, e1⟩
                  · rw [List.getElem?_append_right (by omega)] at hi
                    cases hfr : ob.fresh with
                    | false => rw [hfr] at hi; simp at hi
                    | true =>
                      rw [hfr] at hi hres
                      simp only [if_true] at hi hres
                      have hi0 : i - ids.length = 0 := by
                        have := (List.getElem?_eq_some_iff.1 hi).1
                        simp at this; omega
                      rw [hi0] at hi
                      simp only [List.getElem?_cons_zero, Option.some.injEq] at hi
                      subst hi
                      have e1 : obAt ob β' βn i = G'.β p := by
                        unfold obAt
                        rw [if_neg (by omega)]
                        show βn = upd G.β p βx p
                        rw [upd_same, hfl' hfr]
                      exact ⟨_, hoc, e1 ▸ hko, .inr ⟨rfl, by rw [hfl' hfr]; exact hres.2⟩, e1⟩
                have hlive : ∀ y ∈ (if ob.fresh then [] else resLivex p (.un (.cell 0) (.var p)) sig.res) ++ oLive p 1 ob.outs, LiveOk (C.add p) w' 0 G' p (outIdx sig ob) y := by
                  intro y hy
                  rcases List.mem_append.1 hy with hy | hy
                  · cases hfr : ob.fresh with
                    | true => rw [hfr] at hy; simp at hy
                    | false =>
                      rw [hfr] at hy hres
                      simp only [Bool.false_eq_true, if_false] at hy hres
                      have hresC : ResOk w' 0 G'.S τ' sig.res v (den (C.add p).ρ (.un (.cell 0) (.var p))) := by
                        show ResOk w' 0 S' τ' sig.res v (den C.ρ _)
                        rw [hcell0]; exact hres
                      obtain ⟨z1, z2, z3⟩ := resLivex_ok (C := C.add p) (G := G') hresC hM (hltE _) hτ y hy
                      exact ⟨z1, List.mem_append_left _ z2, z3⟩
                  · obtain ⟨i, rc, hrc, hy⟩ := oLive_mem hy
                    obtain ⟨j, r, hr, hy⟩ := cellsLive_mem _ _ _ _ _ hy
                    have hil : i < (ids ++ if ob.fresh then [p] else []).length := by
                      have := (List.getElem?_eq_some_iff.1 hrc).1
                      rw [holen] at this
                      rw [List.length_append]
                      cases hfr : ob.fresh <;> simp [hfr] at this ⊢ <;> omega
                    obtain ⟨cells, hcl, ⟨vals, T, _, v2, v3, v4, _⟩, _, _⟩ := objN i _ rc (List.getElem?_eq_getElem hil) hrc
                    have hjl : j < rc.length := (List.getElem?_eq_some_iff.1 hr).1
                    have hdj : cells[j]? = some (cells[j]'(by omega)) := List.getElem?_eq_getElem _
                    have := v4 j r _ _ hr (List.getElem?_eq_getElem (by omega)) hdj
                    refine cellLive_ok (C := C.add p) (G := G') (idx := outIdx sig ob) this hM (hltE2 _ _) ?_ hτ (fun j0 T0 hj0 => ?_) y hy
                    · show den C.ρ (.un (.cell (0 + j)) (.un (.cell (1 + i)) (.var p))) = _
                      have e2 : den C.ρ (.un (.cell (0 + j)) (.un (.cell (1 + i)) (.var p))) = (U.cell (0 + j)).den (den C.ρ (.un (.cell (1 + i)) (.var p))) := rfl
                      rw [e2, hcello i _ hcl]
                      simp only [U.den, D.toL, Nat.zero_add]
                      exact toL_getD hdj
                    · unfold outIdx
                      refine List.mem_append_right _ (List.mem_flatMap.2 ⟨rc, List.mem_of_getElem? hrc, ?_⟩)
                      unfold rcIdx
                      exact List.mem_filterMap.2 ⟨r, List.mem_of_getElem? hr, by rw [hj0]; rfl⟩
                let kill : List Tag := l.filterMap (·.2)
                have hkills : ∀ g : Tag, ((g, none) : Tag × Option (E × TypeId × Ty)) ∈ (l.filterMap fun y => y.2.map fun g => ((g, none) : Tag × Option (E × TypeId × Ty))) ↔ g ∈ kill := by
                  intro g
                  simp only [List.mem_filterMap, kill]
                  constructor
                  · rintro ⟨y, hy, hy2⟩
                    cases hy3 : y.2 with
                    | none => rw [hy3] at hy2; cases hy2
                    | some g' => rw [hy3] at hy2; simp at hy2; subst hy2; exact ⟨y, hy, hy3⟩
                  · rintro ⟨y, hy, hy2⟩
                    exact ⟨y, hy, by rw [hy2]; rfl⟩
                have hkilln : ∀ g z, (g, some z) ∉ (l.filterMap fun y => y.2.map fun g => ((g, none) : Tag × Option (E × TypeId × Ty))) := by
                  intro g z hm
                  simp only [List.mem_filterMap] at hm
                  obtain ⟨y, _, hy2⟩ := hm
                  cases hy3 : y.2 with
                  | none => rw [hy3] at hy2; cases hy2
                  | some g' => rw [hy3] at hy2; simp at hy2
                have hkmem : ∀ g ∈ kill, ∃ j, (j, some g) ∈ l := by
                  intro g hg
                  simp only [kill, List.mem_filterMap] at hg
                  obtain ⟨⟨j, y⟩, hy, hy2⟩ := hg
                  simp only at hy2
                  subst hy2
                  exact ⟨j, hy⟩
                let eff : Eff := OCall.eff ⟨k', .ofL (es.map (·.1) ++ ess.flatten), sig, ob, ids, l⟩ p o.dst
                have hliveN : ∀ g z, updL σ.live eff.live g = some z → (g.1 ≠ p ∧ g ∉ kill ∧ σ.live g = some z) ∨ LiveOk (C.add p) w' 0 G' p (outIdx sig ob) (g, some z) := by
                  intro g z hz
                  unfold updL at hz
                  split at hz
                  · rename_i y hy
                    subst hz
                    have hmem := lk_mem hy
                    have hmem2 : (g, some z) ∈ (l.filterMap fun y => y.2.map fun g => ((g, none) : Tag × Option (E × TypeId × Ty))) ++ (if ob.fresh then [] else resLivex p (.un (.cell 0) (.var p)) sig.res) ++ oLive p 1 ob.outs := hmem
                    rw [List.append_assoc] at hmem2
                    rcases List.mem_append.1 hmem2 with hm | hm
                    · exact absurd hm (hkilln g z)
                    · exact .inr (hlive _ hm)
                  · rename_i hy
                    refine .inl ⟨fun e => hp (e ▸ (hs.m.own g z.1 z.2.1 z.2.2 hz).m), fun hk => ?_, hz⟩
                    refine lk_none_mem hy none ?_
                    show (g, none) ∈ (l.filterMap fun y => y.2.map fun g => ((g, none) : Tag × Option (E × TypeId × Ty))) ++ (if ob.fresh then [] else resLivex p (.un (.cell 0) (.var p)) sig.res) ++ oLive p 1 ob.outs
                    rw [List.append_assoc]
                    exact List.mem_append_left _ ((hkills g).2 hk)
                have hhpN : ∀ id z, updL σ.hp eff.hp id = some z → (id ∉ ids ∧ id ≠ p ∧ σ.hp id = some z) ∨ ∃ (i : Nat) (rc : List RCell), (ids ++ if ob.fresh then [p] else [])[i]? = some id ∧ ob.outs[i]? = some rc ∧ z = (false, cellsSC true p (.un (.cell (1 + i)) (.var p)) 0 rc) := by
                  intro id z hz
                  unfold updL at hz
                  split at hz
                  · rename_i y hy
                    subst hz
                    obtain ⟨i, rc, h1, h2, h3⟩ := oHp_mem (lk_mem hy)
                    injection h3 with h3
                    exact .inr ⟨i, rc, h1, h2, h3⟩
                  · rename_i hy
                    have hni := oHp_none (ids := ids ++ if ob.fresh then [p] else []) (rcs := ob.outs) hy (by rw [holen, List.length_append]; cases ob.fresh <;> simp)
                    refine .inl ⟨fun hi => hni (List.mem_append_left _ hi), ?_, hz⟩
                    rintro rfl
                    exact hp (hs.m.boxM _ _ hz)
                have hobAt : ∀ j id y z b, updL σ.live eff.live (p, j) = some y → updL σ.hp eff.hp id = some z → (id ∈ ids ∨ id = p) → (τ' j).ownBlock = some b → b ≠ G'.β id := by
                  intro j id y z b hy hz hid hb
                  rcases hliveN _ _ hy with ⟨h1, _⟩ | hlv
                  · exact absurd rfl h1
                  · rcases hhpN id z hz with ⟨h1, h2, _⟩ | ⟨i, rc, h1, h2, _⟩
                    · rcases hid with hid | hid
                      · exact absurd hid h1
                      · exact absurd hid h2
                    · obtain ⟨cells, _, _, _, he⟩ := objN i id rc h1 h2
                      rw [← he]
                      exact hout.ownbox j i b hlv.2.1 (List.getElem?_eq_some_iff.1 h2).1 hb
                obtain ⟨hlat, hm⟩ := hs.m.ocalled hp (τ' := τ') (βn := βx) (ids := ids) (kill := kill) (mu := MuO ob β' τ0) hout.below
                  (by
                    rintro b (⟨i, hi, rfl⟩ | ⟨j, hj, hb⟩)
                    · have h1 : ids[i]? = some (ids[i]'(by omega)) := List.getElem?_eq_getElem _
                      exact .inl ⟨_, List.getElem_mem (l := ids) (n := i) (by omega), hβ' i _ h1⟩
                    · unfold Ob.inIdx at hj
                      rw [q3] at hj
                      obtain ⟨g, hgl, hgb⟩ := own_tag hown hj hb
                      exact .inr ⟨g, List.mem_filterMap.2 ⟨_, hgl, rfl⟩, hgb⟩)
                  q4 (fun g hg => by obtain ⟨j, hj⟩ := hkmem g hg; exact q5 j g hj) hout.foot hout.lt hout.new hout.keep (updL σ.hp eff.hp) (updL σ.live eff.live) G' rfl
                  (by
                    intro id z hz
                    rcases hhpN id z hz with h1 | ⟨i, rc, h1, h2, rfl⟩
                    · exact .inl h1
                    · obtain ⟨cells, hcl, ⟨vals, T, v1, v2, v3, v4, v5⟩, hid, _⟩ := objN i id rc h1 h2
                      refine .inr ⟨rfl, hid, ?_, BlkOk.mk (vs := vals) (T := T) v1 ⟨?_, ?_⟩, v5⟩
                      · rw [List.all_eq_true]
                        intro c hcm
                        obtain ⟨j, hj⟩ := List.getElem?_of_mem hcm
                        rw [cellsSC_get] at hj
                        simp only [Option.map_eq_some_iff] at hj
                        obtain ⟨r, hr, rfl⟩ := hj
                        have := List.all_eq_true.1 (List.all_eq_true.1 hsc rc (List.mem_of_getElem? h2)) r (List.mem_of_getElem? hr)
                        obtain ⟨t, _ | ⟨j0, T0⟩⟩ := r
                        · exact this
                        · cases hej : exN j0 <;> simp [cellSC, hej, SC.scalar]
                      · rw [cellsSC_len, v2]
                      · intro j c u hj hu
                        rw [cellsSC_get] at hj
                        simp only [Option.map_eq_some_iff] at hj
                        obtain ⟨r, hr, rfl⟩ := hj
                        have hjl : j < rc.length := (List.getElem?_eq_some_iff.1 hr).1
                        have hdj : cells[j]? = some (cells[j]'(by omega)) := List.getElem?_eq_getElem _
                        refine cellSC_ok (C := C.add p) (G := G') (v4 j r u _ hr hu hdj) hM (hltE2 _ _) ?_ hτ true
                        show den C.ρ (.un (.cell (0 + j)) (.un (.cell (1 + i)) (.var p))) = _
                        have e2 : den C.ρ (.un (.cell (0 + j)) (.un (.cell (1 + i)) (.var p))) = (U.cell (0 + j)).den (den C.ρ (.un (.cell (1 + i)) (.var p))) := rfl
                        rw [e2, hcello i _ hcl]
                        simp only [U.den, D.toL, Nat.zero_add]
                        exact toL_getD hdj)
                  (by
                    intro g z hz
                    rcases hliveN g z hz with h1 | hlv
                    · exact .inl h1
                    · obtain ⟨z1, z2, e, T, t, z3, z4⟩ := hlv
                      injection z3 with z3; subst z3
                      exact .inr ⟨z1, z4, fun b hb => hout.ownnew g.2 b z2 hb⟩)
                  (by
                    intro j k y z b hy hz hb1 hb2
                    rcases hliveN _ _ hy with ⟨h1, _⟩ | hl1
                    · exact absurd rfl h1
                    · rcases hliveN _ _ hz with ⟨h1, _⟩ | hl2
                      · exact absurd rfl h1
                      · exact hout.own j k b hl1.2.1 hl2.2.1 hb1 hb2)
                  hobAt hnf hnw
                refine hK _ _ _ (hs.step (o := o) (e := eff) hlat (hm.congr rfl rfl) rfl hlt (by intro x hx; cases hx) ?_ hdst)
                intro _
                rw [if_pos (show condB C.ρ eff.ent.1 = true from rfl)]
                show RSV (C.add p) w' G' (if ob.fresh then .one (.adr p 0) else resSVx true p (.un (.cell 0) (.var p)) sig.res) v
                cases hfr : ob.fresh with
                | true =>
                  rw [hfr] at hres
                  simp only [if_true] at hres ⊢
                  refine ⟨hM, ?_⟩
                  rw [hres.1]
                  show _ = Value.pointer (some ⟨upd G.β p βx p, 0, none⟩)
                  rw [upd_same, hfl' hfr]
                | false =>
                  rw [hfr] at hres
                  simp only [Bool.false_eq_true, if_false] at hres ⊢
                  have hresC : ResOk w' 0 G'.S τ' sig.res v (den (C.add p).ρ (.un (.cell 0) (.var p))) := by
                    show ResOk w' 0 S' τ' sig.res v (den C.ρ _)
                    rw [hcell0]; exact hres
                  exact resSVx_ok (C := C.add p) (G := G') hresC hM (hltE _) hτ true
              · cases h
            · cases h
          · cases h
        · cases h
      · cases h
    · cases h
  · cases h
end
end Go.Eng
/- append onto a slice with no room behind it. -/
namespace Go.Eng
open Go Go.RowKit

section
variable {P : Program} (w : World)
theorem run_append_clip (t ty e : TypeId) (i : TypeInfo) (z : Value) (size : Nat) (ht : P.underlying t = some (.slice e)) (hi : P.info? e = some i) (hz : i.zero = some z)
    (hsize : i.size = size) (hzs : z.cells.size = size) (ad : Addr) (n : Nat) (xs : List Value) (hxl : xs.length = n * size) (holds : ∀ (j : Nat) v, xs[j]? = some v → w.cell? (ad.add j) = some v)
    (A : Option Addr) (m c : Nat) (news : List Value) (hA : A = none → m = 0) (hl : news.length = m * size)
    (hnews : ∀ a, A = some a → ∀ (j : Nat) u, news[j]? = some u → w.cell? (a.add j) = some u) (hm : 0 < m)
    (h63 : n + m ≤ maxLen) (hbytes : (n + m) * i.bytes ≤ 140737488355328) :
    ∃ v' w', (Builtin.append_ #[t, t] ty #[.slice (some ad) n n, .slice A m c]).run P w = .ok v' w' ∧ w'.ownsRow 0 e size v' (n + m) (xs ++ news) ∧ v'.ownBlock = some w.heap.size ∧ w.grownBy w' none := by
  subst hsize
  have hsmall : n + m ≤ 9223372036854775807 := by simp only [maxLen] at h63; omega
  have hlen : (xs ++ news).length = (n + m) * i.size := by rw [List.length_append, hxl, hl, Nat.add_mul]
  obtain ⟨a, rfl⟩ : ∃ a, A = some a := by
    cases A with
    | none => have := hA rfl; omega
    | some a => exact ⟨a, rfl⟩
  have hr := run_append_grow (P := P) w t ty e i z ht hi hz ad n n xs hxl holds a m c news hl (hnews a rfl) (by omega) (by omega) (growslice_fits (by omega) hbytes)
  have hge := grownCap_ge w (n + m) n e
  have hcm : grownCap w (n + m) n e ≤ maxLen := grownCap_le_maxLen w (n + m) n e h63
  refine ⟨_, _, hr, ⟨hlen, .inr ⟨w.heap.size, _, _, rfl, Nat.zero_le _, heap_alloc_new w.drew _, hge, hcm, ?_, ?_⟩⟩, rfl, ⟨rfl, rfl, rfl, by simp, fun k hk _ => heap_alloc_old w.drew _ k hk⟩⟩
  · simp only [Array.size_append, List.size_toArray, size_zeroCells, hzs, hxl, hl, ← Nat.add_mul]
    congr 1
    omega
  · simp only [Array.toList_append, List.append_assoc]
    rw [← List.append_assoc, ← hlen]
    exact List.take_left
end
end Go.Eng
/- Calls, appends and slice literals, as steps; every operation together. -/
namespace Go.Eng
open Go Go.RowKit

section
variable {P : Program} {C : Cx} {w w0 : World} {S0 : Base} {G : Gh} {σ : St} {a : Act} {o : Oper} {pc : Cond} {s : SV} {is : List Item} {Φ : Nat → List D → D} {Pre : Nat → List D → Prop} {n p : Nat} {cs : Tbl}

theorem not_M_live (hm : SimM w0 S0 C G σ w) (hp : ¬ C.M p) {g : Tag} {x : E × TypeId × Ty} (h : σ.live g = some x) : g.1 ≠ p :=
  fun e => hp (e ▸ (hm.own g x.1 x.2.1 x.2.2 h).m)

theorem OwnOk.rebase {base base' : Nat} {g : Tag} {e : E} {T : TypeId} {t : Ty} (h : OwnOk C w base G g e T t) (hb : ∀ b, (G.τ g).ownBlock = some b → base' ≤ b) : OwnOk C w base' G g e T t := by
  obtain ⟨xs, l, hd, hown, hrest⟩ := h.own
  refine ⟨h.m, h.lt, h.has, xs, l, hd, ⟨hown.1, ?_⟩, hrest⟩
  rcases hown.2 with hn | ⟨b, cap, cur, hv, hbb, hg⟩
  · exact .inl hn
  · exact .inr ⟨b, cap, cur, hv, hb b (by rw [hv]; rfl), hg⟩

theorem stepped_call {ops : Array Oper} {k : Nat} {e : E} {sig : Sig} (hs : Sim n w0 S0 C G σ a w) (hp : ¬ C.M p) (hpN : p < C.N) (hg : guardOf ops σ o = some pc) (h : opCall P cs σ pc o = some (k, e, sig))
    (hcon : ∀ k sig, lk cs.l k = some sig → PureFn P k sig (Pre k) (Φ k)) (hit : ItemOk C Φ Pre (.call p k e pc)) (hlt : (resSV pc.isEmpty p sig.res).lt C.N = true) (hdst : ∀ d, o.dst = some d → d < n) (items : List Item) (hfr : S0.fr → frOk P cs σ pc o = true) (hnw : ¬ S0.wz) :
    Stepped1 P n w0 S0 C ((⟨o.dst, (pc, resSV pc.isEmpty p sig.res), [], if pc.isEmpty then resLive p sig.res else [], [], items⟩ : Eff).app σ) p ops a w o := by
  intro K Q hK
  obtain ⟨hw, hc⟩ := guardOf_ok hs.t hg
  rw [hw]
  have hemp : condB C.ρ pc = false → pc.isEmpty = false := by intro h; cases pc <;> first | rfl | (simp [condB] at h)
  cases hpc : condB C.ρ pc with
  | false =>
    simp only [Bool.false_eq_true, if_false]
    have hm : SimM w0 S0 (C.add p) G ((⟨o.dst, (pc, resSV pc.isEmpty p sig.res), [], if pc.isEmpty then resLive p sig.res else [], [], items⟩ : Eff).app σ) w :=
      (hs.m.addM p).congr (updL_nil _) (by simp only [Eff.app, hemp hpc, Bool.false_eq_true, if_false]; exact updL_nil _)
    exact hK _ _ _ (hs.step (o := o) (e := ⟨o.dst, (pc, resSV pc.isEmpty p sig.res), [], if pc.isEmpty then resLive p sig.res else [], [], items⟩) (Later.addM C w G p) hm rfl hlt hc
      (by intro _; simp only [hpc, Bool.false_eq_true, if_false]) hdst)
  | true =>
    simp only [if_true]
    unfold opCall at h
    split at h
    · rename_i f args argTypes ho
      split at h
      · rename_i fe k' fs es hf hes
        split at h
        · rename_i sig' hsig
          split at h
          · rename_i hcnd
            obtain ⟨hob, hty, hnd, hshape, hnx⟩ := hcnd
            injection h with h; simp only [Prod.mk.injEq] at h; obtain ⟨rfl, hE, rfl⟩ := h
            obtain ⟨f1, f2, f3⟩ := getV_ok hs.t hpc hf
            obtain ⟨fl, hfl, hfh⟩ := has_fn.1 f3
            obtain ⟨cvs, hfv, hclen, hcr⟩ := (hfl ▸ f2).inv_fn
            obtain ⟨k1, k2⟩ := argsE_ok hs.t hpc hes
            have hcontract := sigOf_ok hsig hcon
            -- the arguments' data
            have hden : (den C.ρ e).toL = (es.map fun x => den C.ρ x.1) ++ fl := by
              rw [← hE, den_ofL]
              simp only [D.toL, List.map_append, List.map_map]
              congr 1
              apply List.ext_getElem?
              intro i
              simp only [List.getElem?_map, cellsE_get, Option.map_map]
              cases hi : (fs.toL)[i]? with
              | none =>
                have : fl.length ≤ i := by rw [hasL_len hfh]; exact List.getElem?_eq_none_iff.1 hi
                simp [List.getElem?_eq_none this]
              | some t =>
                obtain ⟨x, hx, _⟩ := hasL_get hfh i t hi
                simp only [Option.map_some, Function.comp, den, U.den, hfl, D.toL, Nat.zero_add, toL_getD hx, hx]
            have hlenargs : (args.toList.map a.eval ++ cvs).length = ((es.map fun x => den C.ρ x.1) ++ fl).length := by simp [k1, hclen]
            have hrun : (execOp a.eval o).run P w = .ok (.enter k' (args.toList.map a.eval ++ cvs).toArray) w := by
              have e1 : (args.toList.map a.eval ++ cvs).toArray = args.map a.eval ++ cvs.toArray := by apply Array.ext'; simp
              unfold execOp; simp only [ho, resolve, hfv, Deferred.ofValue, e1]
              have := hcontract.enter (args.map a.eval ++ cvs.toArray) w
              simpa [invoke] using this
            unfold Oper.wp
            rw [hrun]
            have hrepargs : ∀ (i : Nat) v d, (args.toList.map a.eval ++ cvs)[i]? = some v → ((es.map fun x => den C.ρ x.1) ++ fl)[i]? = some d → Rep w G.S v d := by
              intro i v d hv hd
              by_cases hi : i < args.toList.length
              · rw [List.getElem?_append_left (by simpa using hi)] at hv
                rw [List.getElem?_append_left (by rw [List.length_map, k1]; exact hi)] at hd
                simp only [List.getElem?_map, Option.map_eq_some_iff] at hv hd
                obtain ⟨x, hx, rfl⟩ := hv
                obtain ⟨y, hy, rfl⟩ := hd
                exact (k2 i x y hx hy).1
              · rw [List.getElem?_append_right (by simpa using hi)] at hv
                rw [List.getElem?_append_right (by rw [List.length_map, k1]; omega)] at hd
                simp only [List.length_map] at hv hd
                rw [k1] at hd
                exact hcr _ v d hv hd
            have hhas : HasL (.ofL sig'.params) ((es.map fun x => den C.ρ x.1) ++ fl) := by
              rw [← hty]
              refine hasL_mk (by simp [hasL_len hfh]) fun j u x hj hx => ?_
              by_cases hi : j < es.length
              · rw [List.getElem?_append_left (by simpa using hi)] at hj hx
                simp only [List.getElem?_map, Option.map_eq_some_iff] at hj hx
                obtain ⟨y, hy, rfl⟩ := hj
                obtain ⟨y', hy', rfl⟩ := hx
                rw [hy] at hy'; injection hy' with hy'; subst hy'
                have hlen : j < args.toList.length := by rw [← k1]; exact hi
                exact (k2 j _ y (List.getElem?_eq_getElem hlen) hy).2
              · rw [List.getElem?_append_right (by simpa using hi)] at hj hx
                simp only [List.length_map] at hj hx
                obtain ⟨y, hy, hhy⟩ := hasL_get hfh _ u hj
                rw [hx] at hy; injection hy with hy; subst hy; exact hhy
            obtain ⟨_, _, hρ, hpre⟩ := hit
            have hpre' := hpre hpc
            rw [hden] at hρ hpre'
            refine (hcontract.calls (by simpa using hob) w G.S _ _ hs.m.footlt hlenargs hrepargs hhas hpre').mono ?_
            rintro e' w' ⟨v, S', τ0, rfl, hbel, hS, hSlt, hSnew, hres0, hnewb0, hdis0, hfrn0⟩
            simp only
            rw [← hρ] at hres0
            obtain ⟨τ', hτ'⟩ : ∃ τ', τ' = saneτ sig'.res τ0 := ⟨_, rfl⟩
            have hin : ∀ j, j ∈ ownIdx sig'.res → τ' j = τ0 j := fun j hj => by rw [hτ']; exact if_pos hj
            have hres := hres0.sane
            rw [← hτ'] at hres
            have hnewb : ∀ j b, j ∈ ownIdx sig'.res → (τ' j).ownBlock = some b → w.heap.size ≤ b := fun j b hj hb => hnewb0 j b hj (by rw [← hin j hj]; exact hb)
            have hdis : ∀ j k b, j ∈ ownIdx sig'.res → k ∈ ownIdx sig'.res → (τ' j).ownBlock = some b → (τ' k).ownBlock = some b → j = k := fun j k b hj hk h1 h2 => hdis0 j k b hj hk (by rw [← hin j hj]; exact h1) (by rw [← hin k hk]; exact h2)
            let G' : Gh := { S := S', β := G.β, τ := fun g => if g.1 = p then τ' g.2 else G.τ g }
            have hτ : ∀ j, G'.τ (p, j) = τ' j := fun j => if_pos rfl
            have hM : (C.add p).M p := .inr rfl
            have hresC : ResOk w' 0 G'.S τ' sig'.res v ((C.add p).ρ p) := hres
            have hlive := resLive_ok (C := C.add p) (G := G') hresC hM hpN hτ
            obtain ⟨hlat, hm⟩ := hs.m.called hp (τ' := τ') hbel hS hSlt hSnew (updL σ.live (if pc.isEmpty then resLive p sig'.res else [])) G' rfl
              (by
                intro g x hx
                unfold updL at hx
                split at hx
                · rename_i y hy
                  have hmem := lk_mem hy
                  cases hpe : pc.isEmpty with
                  | false => rw [hpe] at hmem; simp at hmem
                  | true =>
                    rw [hpe] at hmem; simp only [if_true] at hmem
                    obtain ⟨q1, q2, e1, T1, t1, q3, q4⟩ := hlive _ hmem
                    simp only at q1 q3 q4
                    rw [q3] at hx; injection hx with hx; subst hx
                    refine .inr ⟨q1, q4.rebase (fun b hb => hnewb g.2 b q2 ?_)⟩
                    have e : G'.τ g = τ' g.2 := if_pos q1
                    rw [← e]; exact hb
                · exact .inl ⟨not_M_live hs.m hp hx, hx⟩)
              (by
                intro j1 j2 x y b hx hy hb1 hb2
                have key : ∀ j x, updL σ.live (if pc.isEmpty then resLive p sig'.res else []) (p, j) = some x → j ∈ ownIdx sig'.res := by
                  intro j x hx
                  unfold updL at hx
                  split at hx
                  · rename_i y hy
                    have hmem := lk_mem hy
                    cases hpe : pc.isEmpty with
                    | false => rw [hpe] at hmem; simp at hmem
                    | true =>
                      rw [hpe] at hmem; simp only [if_true] at hmem
                      exact (hlive _ hmem).2.1
                  · exact absurd rfl (not_M_live hs.m hp hx)
                exact hdis j1 j2 b (key j1 x hx) (key j2 y hy) hb1 hb2)
              (fun hff => by
                have h1 := hfr hff
                unfold frOk at h1
                simp only [ho, hf, hsig, Bool.and_eq_true] at h1
                rw [hτ']
                exact hres0.fresh h1.1.1 h1.2 (fun j b hj hb => .inl (Nat.le_trans hs.m.base_le (hnewb0 j b hj hb))) fun j hj hfj => (hfrn0 j hj hfj).weak fun b hb => .inl (Nat.le_trans hs.m.base_le hb)) hnw
            exact hK _ _ _ (hs.step (o := o) (e := ⟨o.dst, (pc, resSV pc.isEmpty p sig'.res), [], if pc.isEmpty then resLive p sig'.res else [], [], items⟩) hlat (hm.congr (updL_nil _) rfl) rfl hlt hc
              (by intro _; simp only [hpc, if_true]; exact resSV_ok (C := C.add p) (G := G') hresC hM hpN hτ _ (by simpa using hnx)) hdst)
          · cases h
        · cases h
      · cases h
    · cases h

/-- A slice that is read: where its elements' cells lie. -/
theorem Rep.source {S : Foot} {v : Value} {l : List D} {k : Nat} (h : Rep w S v (.list l)) (hk : ∀ d ∈ l, d.cells.length = k) :
    ∃ (A : Option Addr) (c : Nat) (news : List Value), v = .slice A l.length c ∧ (A = none → l.length = 0) ∧ news.length = l.length * k ∧ (∀ ad, A = some ad → ∀ (j : Nat) u, news[j]? = some u → w.cell? (ad.add j) = some u) ∧
      ∀ (i : Nat) d (j : Nat) u c, l[i]? = some d → d.cells[j]? = some c → news[i * k + j]? = some u → Rep w S u c := by
  cases h with
  | nil ad cap => exact ⟨ad, cap, [], rfl, fun _ => rfl, by simp, by simp, by simp⟩
  | list b off cap sz xs _ hsz hne hcap hl hS hc hw hr =>
    have hszk : sz = k := by
      cases hds : l with
      | nil => exact absurd hds hne
      | cons d r => rw [← hw 0 d (by rw [hds]; rfl)]; exact hk d (by rw [hds]; simp)
    subst hszk
    refine ⟨_, cap, xs, rfl, (by intro h; cases h), hl, ?_, hr⟩
    intro ad had j u hu
    injection had with had; subst had
    rw [addr_add]; exact hc j u hu

theorem freshArg_val {N : Nat → Prop} {sv : SV} {v : Value} {e2 : E} {u : Ty} (hf : freshArg sv = true) (hfr : ∀ g, FrV N w G.S (G.τ g)) (hr : RSV C w G sv v) (hd : asDataV sv = some (e2, .list u)) :
    ValIn (FrB N w G.S) v ∨ (u.cells.all Ty.bare) = true := by
  cases sv with
  | one c =>
    cases c with
    | own g e t => exact .inl (freshSC_val (C := C) (c := .own g e t) rfl hfr hr)
    | nils t => exact .inl (freshSC_val (C := C) (c := .nils t) rfl hfr hr)
    | dat e t =>
      simp only [asDataV, asData, Option.some.injEq, Prod.mk.injEq] at hd
      obtain ⟨_, rfl⟩ := hd
      exact .inr hf
    | clip e t =>
      simp only [asDataV, asData, Option.some.injEq, Prod.mk.injEq, Ty.list.injEq] at hd
      obtain ⟨_, rfl⟩ := hd
      exact .inr hf
    | _ => cases hf
  | _ => cases hf

theorem stepped_append {ops : Array Oper} {g : Option Tag} {e1 e2 : E} {T : TypeId} {t : Ty} {b : Nat} (hs : Sim n w0 S0 C G σ a w) (hp : ¬ C.M p) (hg : guardOf ops σ o = some [])
    (h : opAppend P σ [] o = some (g, e1, e2, T, t, b)) (hit : ItemOk C Φ Pre (.room [] (.bin .cat e1 e2) b)) (hdst : ∀ d, o.dst = some d → d < n) (items : List Item) (hfr : S0.fr → frOk P cs σ [] o = true) (hnw : ¬ S0.wz) :
    Stepped1 P n w0 S0 C ((⟨o.dst, ([], .one (.own (p, 0) (.bin .cat e1 e2) t)), [], (match g with | some g => [(g, none)] | none => []) ++ [((p, 0), some (.bin .cat e1 e2, T, t))], [], items⟩ : Eff).app σ) p ops a w o := by
  intro K Q hK
  obtain ⟨hw, hc⟩ := guardOf_ok hs.t hg
  rw [hw]
  simp only [condB, List.all_nil, if_true]
  unfold opAppend at h
  split at h
  · rename_i args argTypes ho
    split at h
    · rename_i sx x tt tt' hargs hats
      split at h
      · rename_i el sv ex u hu hsv hx
        split at h
        · rename_i ie u' hie hu'
          split at h
          · rename_i hcnd
            obtain ⟨rfl, rfl, hwid, hpos, hscal, hzero, hbyt⟩ := hcnd
            obtain ⟨y1, y2, y3⟩ := getD_ok hs.t (pc := []) rfl hx
            obtain ⟨l2, hl2, hl2m, hall2⟩ := has_list.1 y3
            have hk2 : ∀ d ∈ l2, d.cells.length = u.cells.length := fun d hd => (has_cells (hall2 d hd)).1
            obtain ⟨A, c, news, hxv, hA, hnl, hnc, hnr⟩ := (hl2 ▸ y2).source hk2
            obtain ⟨z, hz, hzs⟩ : ∃ z, ie.zero = some z ∧ z.cells.size = ie.size := by
              cases hq : ie.zero with
              | none => simp [hq] at hzero
              | some z => exact ⟨z, rfl, by simpa [hq] using hzero⟩
            -- all that is asked of the slice that is appended to
            have hcs : ∀ e0 u0, sv ≠ .one (.clip e0 u0) := by
              rintro e0 u0 rfl
              cases h
            have main : ∀ (v : Value) (e1' : E) (g' : Option Tag), a.eval sx = v → e1'.lt C.N = true → (∃ l1 xs, den C.ρ e1' = .list l1 ∧ (∀ d ∈ l1, Has u d) ∧ w.ownsRow 0 el u.cells.length v l1.length xs ∧
                (∀ (i : Nat) d (j : Nat) u' c, l1[i]? = some d → d.cells[j]? = some c → xs[i * u.cells.length + j]? = some u' → Rep w G.S u' c) ∧
                (v = .slice none 0 0 ∧ g' = none ∨ ∃ g x, g' = some g ∧ σ.live g = some x ∧ G.τ g = v ∧ ∀ b, v.ownBlock = some b → (∀ o, G.S b o ↔ Tag.ex (p, 0) = false ∧ o < xs.length))) →
                ItemOk C Φ Pre (.room [] (.bin .cat e1' ex) ie.bytes) →
                (∀ a' w' G', Sim n w0 S0 (C.add p) G' ((⟨o.dst, ([], .one (.own (p, 0) (.bin .cat e1' ex) u)), [], (match g' with | some g => [(g, none)] | none => []) ++ [((p, 0), some (.bin .cat e1' ex, el, u))], [], items⟩ : Eff).app σ) a' w' → K a' w') →
                o.wp P a w K Q := by
              rintro v e1' g' hv he1 ⟨l1, xs, hl1, hall1, hown, hxr, hold⟩ hroom hK
              have hden : den C.ρ (.bin .cat e1' ex) = .list (l1 ++ l2) := by simp only [den, B.den, hl1, hl2, D.toL]
              obtain ⟨hr0, hr1⟩ := hroom
              have hr2 := hr1 rfl
              rw [hden] at hr2
              simp only [D.toL, List.length_append] at hr2
              have hone : ∀ w ∈ news, w.oneCell' = true := by
                intro uu huu
                obtain ⟨q, hq⟩ := List.getElem?_of_mem huu
                have hql : q < news.length := (List.getElem?_eq_some_iff.1 hq).1
                have hwp : 0 < u.cells.length := by omega
                have hi : q / u.cells.length < l2.length := by rw [Nat.div_lt_iff_lt_mul hwp, ← hnl]; exact hql
                have hj : q % u.cells.length < u.cells.length := Nat.mod_lt _ hwp
                have hd : l2[q / u.cells.length]? = some (l2[q / u.cells.length]'hi) := List.getElem?_eq_getElem hi
                have hty : u.cells[q % u.cells.length]? = some (u.cells[q % u.cells.length]'hj) := List.getElem?_eq_getElem hj
                obtain ⟨cc, hcc, hcc2⟩ := (has_cells (hall2 _ (List.mem_of_getElem? hd))).2 _ _ hty
                have hqq : q / u.cells.length * u.cells.length + q % u.cells.length = q := by rw [Nat.mul_comm]; exact Nat.div_add_mod _ _
                exact (hnr _ _ _ uu cc hd hcc (by rw [hqq]; exact hq)).oneCell hcc2 (List.all_eq_true.1 hscal _ (List.getElem_mem hj))
              obtain ⟨v', w', hrun, hown', hcase⟩ := run_append_cases (P := P) w 0 tt o.type el ie z u.cells.length hu hie hz hwid.symm (by rw [hzs, hwid]) v l1.length xs hown A l2.length c news hA hnl hnc hone hr2.1 hr2.2 (Nat.zero_le _)
              have hexec : (execOp a.eval o).run P w = .ok (.value v') w' := by
                have ha1 : args = #[sx, x] := by apply Array.ext'; simpa using hargs
                have ha2 : argTypes = #[tt, tt] := by apply Array.ext'; simpa using hats
                unfold execOp; simp only [ho, resolve, invoke, builtin, ha1, ha2]
                simp [hv, hxv, hrun]
              unfold Oper.wp
              rw [hexec]
              have hgp : ∀ g, g' = some g → g ≠ (p, 0) := by
                intro g hgg he
                rcases hold with ⟨_, h2⟩ | ⟨g0, x0, h2, h3, _⟩
                · rw [h2] at hgg; cases hgg
                · rw [h2] at hgg; injection hgg with hgg; subst hgg; subst he
                  exact not_M_live hs.m hp h3 rfl
              obtain ⟨G', hlat, hm, hτ⟩ := hs.m.appended hp 0 (v := v) (v' := v') (T := el) (t := u) (n := l1.length) (m := l2.length) (xs := xs) (news := news) (l := l1) (l2 := l2) (e2 := .bin .cat e1' ex)
                (by omega) rfl rfl hxr hnr (fun d hd => (has_cells (hall1 d hd)).1) hown.1 hown' hcase (updL σ.live ((match g' with | some g => [(g, none)] | none => []) ++ [((p, 0), some (.bin .cat e1' ex, el, u))]))
                (by
                  rcases hold with ⟨h1, _⟩ | ⟨g0, x0, h2, h3, h4, h5⟩
                  · exact .inl h1
                  · refine .inr ⟨g0, x0, h3, h4, ?_, fun b hb => ⟨h5 b hb, fun o' u' ho' => ?_⟩⟩
                    · rw [h2]; simp [updL, lk]
                    · have := hown.cells (g := b) hb o' u' ho'
                      rw [addr_add, Nat.zero_add] at this; exact this)
                (by simp [E.lt, he1, y1]) hden (by rw [hden]; exact has_list.2 ⟨_, rfl, ⟨by simpa using hr2.1, by rw [← hbyt]; simpa using hr2.2⟩, fun d hd => by rcases List.mem_append.1 hd with h | h; exact hall1 d h; exact hall2 d h⟩)
                (by
                  intro g0 x0 hx0
                  unfold updL at hx0
                  cases g' with
                  | none =>
                    simp only [List.nil_append, lk] at hx0
                    by_cases he : g0 = (p, 0)
                    · rw [if_pos he] at hx0; simp only [Option.some.injEq] at hx0; exact .inr ⟨he, hx0.symm⟩
                    · rw [if_neg he] at hx0; exact .inl ⟨he, hx0⟩
                  | some g1 =>
                    simp only [List.cons_append, List.nil_append, lk] at hx0
                    by_cases he1 : g0 = g1
                    · rw [if_pos he1] at hx0; cases hx0
                    · rw [if_neg he1] at hx0
                      by_cases he : g0 = (p, 0)
                      · rw [if_pos he] at hx0; simp only [Option.some.injEq] at hx0; exact .inr ⟨he, hx0.symm⟩
                      · rw [if_neg he] at hx0; exact .inl ⟨he, hx0⟩)
                (fun hff => ⟨rfl, (by
                  intro hn u0 hu0
                  rcases hown.2 with ⟨_, h1⟩ | ⟨b0, cap0, cur0, h1, _⟩
                  · have := hown.1
                    rw [h1, Nat.zero_mul] at this
                    rw [List.eq_nil_of_length_eq_zero this] at hu0; simp at hu0
                  · rw [hn] at h1; cases h1), (by
                  have h1 := hfr hff
                  unfold frOk at h1
                  simp only [ho, hargs, hats] at h1
                  cases hxs : getV P σ [] x tt with
                  | none => rw [getD_, hxs] at hx; cases hx
                  | some xv =>
                    have hxd : asDataV xv = some (ex, .list u) := by rw [getD_, hxs] at hx; exact hx
                    have h2 : (u.cells.all Ty.bare) = true ∨ freshArg xv = true := by
                      rw [hsv, hxs] at h1
                      cases sv with
                      | one c0 => cases c0 with
                        | clip e0 u0 => exact absurd rfl (hcs _ _)
                        | _ => exact .inr h1
                      | _ => exact .inr h1
                    have h3 : ValIn (FrB (NewB w0 S0) w G.S) (a.eval x) ∨ (u.cells.all Ty.bare) = true := by
                      rcases h2 with h2 | h2
                      · exact .inr h2
                      · exact freshArg_val h2 (hs.m.fresh hff) (getV_ok hs.t (pc := []) rfl hxs) hxd
                    rcases h3 with h3 | h3
                    · exact valIn_news h3 (hl2 ▸ y2) hk2 hxv hnl hnc
                    · exact valIn_elems h3 (by omega) hall2 hnl hnr)⟩) hnw
              have hown2 := hm.own (p, 0) (.bin .cat e1' ex) el u (by
                show updL σ.live _ (p, 0) = _
                unfold updL
                cases g' with
                | none => simp [lk]
                | some g1 => simp [lk, Ne.symm (hgp g1 rfl)])
              exact hK _ _ _ (hs.step (o := o) (e := ⟨o.dst, ([], .one (.own (p, 0) (.bin .cat e1' ex) u)), [], (match g' with | some g => [(g, none)] | none => []) ++ [((p, 0), some (.bin .cat e1' ex, el, u))], [], items⟩) hlat (hm.congr (updL_nil _) rfl) rfl
                (by simp [SV.lt, SC.lt, E.lt, he1, y1]) (by simp)
                (by
                  intro _
                  simp only [condB, List.all_nil, if_true]
                  refine ⟨.inr rfl, by simp [E.lt, he1, y1, Cx.add], ?_, hown2.has, hτ.symm⟩
                  have := hown2.rep (by omega)
                  rw [hτ] at this; exact this) hdst)
            split at h
            · rename_i v
              split at h
              · rename_i hvu
                injection h with h; simp only [Prod.mk.injEq] at h; obtain ⟨rfl, rfl, rfl, rfl, rfl, rfl⟩ := h
                have hv := getV_ok hs.t (pc := []) rfl hsv
                refine main (.slice none 0 0) .nil none hv rfl ⟨[], [], rfl, by simp, World.ownsRow_nil w _ _ _, by simp, .inl ⟨rfl, rfl⟩⟩ hit hK
              · cases h
            · rename_i g0 e0 v
              split at h
              · rename_i e1' T' v' hlive
                split at h
                · rename_i hcnd2
                  obtain ⟨rfl, rfl, rfl, hge⟩ := hcnd2
                  injection h with h; simp only [Prod.mk.injEq] at h; obtain ⟨rfl, rfl, rfl, rfl, rfl, rfl⟩ := h
                  have hv := getV_ok hs.t (pc := []) rfl hsv
                  have hok := hs.m.own _ _ _ _ hlive
                  obtain ⟨xs, l1, hl1, hown, hfoot, hr⟩ := hok.own
                  have hh := hok.has
                  rw [hl1] at hh
                  obtain ⟨l1', hl1', _, hall1⟩ := has_list.1 hh
                  injection hl1' with hl1'; subst hl1'
                  exact main (G.τ g0) e1' (some g0) hv.2.2.2.2 hok.lt ⟨l1, xs, hl1, hall1, hown, hr, .inr ⟨g0, _, rfl, hlive, rfl, fun b hb o => (hfoot b hb o).trans (by rw [hge]; rfl)⟩⟩ hit hK
                · cases h
              · cases h
            · cases h
          · cases h
        · cases h
      · cases h
    · cases h
  · cases h

theorem stepped_appclip {ops : Array Oper} {e1 e2 : E} {T : TypeId} {t : Ty} {b : Nat} (hs : Sim n w0 S0 C G σ a w) (hp : ¬ C.M p) (hg : guardOf ops σ o = some [])
    (h : opAppClip P σ o = some (e1, e2, T, t, b)) (hit : ItemOk C Φ Pre (.room [] (.bin .cat e1 e2) b)) (hit2 : ItemOk C Φ Pre (.obl [] (.bin .lt (.kint .i64 0) (.un .len e2)))) (hdst : ∀ d, o.dst = some d → d < n) (items : List Item) (hfr : S0.fr → frOk P cs σ [] o = true) (hnw : ¬ S0.wz) :
    Stepped1 P n w0 S0 C ((⟨o.dst, ([], .one (.own (p, 0) (.bin .cat e1 e2) t)), [], [((p, 0), some (.bin .cat e1 e2, T, t))], [], items⟩ : Eff).app σ) p ops a w o := by
  intro K Q hK
  obtain ⟨hw, hc⟩ := guardOf_ok hs.t hg
  rw [hw, if_pos (show condB C.ρ [] = true from rfl)]
  unfold opAppClip at h
  split at h
  · rename_i args argTypes ho
    split at h
    · rename_i sx x tt tt' hargs hats
      split at h
      · rename_i el e1' v ex u hu hsv hx
        split at h
        · rename_i ie u' hie hu'
          split at h
          · rename_i hcnd
            obtain ⟨rfl, rfl, hwid, hpos, hscal, hzero, hbyt, rfl⟩ := hcnd
            injection h with h; simp only [Prod.mk.injEq] at h; obtain ⟨rfl, rfl, rfl, rfl, rfl⟩ := h
            obtain ⟨y1, y2, y3⟩ := getD_ok hs.t (pc := []) rfl hx
            obtain ⟨x1, x2, x3, ad, hvv⟩ := getV_ok hs.t (pc := []) rfl hsv
            obtain ⟨l1, hl1, hl1m, hall1⟩ := has_list.1 x3
            obtain ⟨l2, hl2, hl2m, hall2⟩ := has_list.1 y3
            have hk1 : ∀ d ∈ l1, d.cells.length = v.cells.length := fun d hd => (has_cells (hall1 d hd)).1
            have hk2 : ∀ d ∈ l2, d.cells.length = v.cells.length := fun d hd => (has_cells (hall2 d hd)).1
            obtain ⟨A1, c1, xs, hxv1, hA1, hxl, hxc, hxr⟩ := (hl1 ▸ x2).source hk1
            obtain ⟨A, c, news, hxv, hA, hnl, hnc, hnr⟩ := (hl2 ▸ y2).source hk2
            obtain ⟨z, hz, hzs⟩ : ∃ z, ie.zero = some z ∧ z.cells.size = ie.size := by
              cases hq : ie.zero with
              | none => simp [hq] at hzero
              | some z => exact ⟨z, rfl, by simpa [hq] using hzero⟩
            have hden : den C.ρ (.bin .cat e1' ex) = .list (l1 ++ l2) := by simp only [den, B.den, hl1, hl2, D.toL]
            obtain ⟨hr0, hr1⟩ := hit
            have hr2 := hr1 rfl
            rw [hden] at hr2
            simp only [D.toL, List.length_append] at hr2
            have hm0 : 0 < l2.length := by
              have := hit2.2 rfl
              simp only [den, B.den, U.den, hl2, D.toI, D.toB, D.toL, decide_eq_true_eq] at this
              omega
            -- it has just its own length
            have hcap : a.eval sx = .slice A1 l1.length l1.length := by
              rw [hl1] at hvv
              simp only [D.toL] at hvv
              rw [hvv] at hxv1 ⊢
              injection hxv1 with h1 h2 h3
              rw [h1]
            have hone : ∀ w ∈ news, w.oneCell' = true := by
              intro uu huu
              obtain ⟨q, hq⟩ := List.getElem?_of_mem huu
              have hql : q < news.length := (List.getElem?_eq_some_iff.1 hq).1
              have hwp : 0 < v.cells.length := by omega
              have hi : q / v.cells.length < l2.length := by rw [Nat.div_lt_iff_lt_mul hwp, ← hnl]; exact hql
              have hj : q % v.cells.length < v.cells.length := Nat.mod_lt _ hwp
              have hd : l2[q / v.cells.length]? = some (l2[q / v.cells.length]'hi) := List.getElem?_eq_getElem hi
              have hty : v.cells[q % v.cells.length]? = some (v.cells[q % v.cells.length]'hj) := List.getElem?_eq_getElem hj
              obtain ⟨cc, hcc, hcc2⟩ := (has_cells (hall2 _ (List.mem_of_getElem? hd))).2 _ _ hty
              have hqq : q / v.cells.length * v.cells.length + q % v.cells.length = q := by rw [Nat.mul_comm]; exact Nat.div_add_mod _ _
              exact (hnr _ _ _ uu cc hd hcc (by rw [hqq]; exact hq)).oneCell hcc2 (List.all_eq_true.1 hscal _ (List.getElem_mem hj))
            obtain ⟨v', w', hrun, hown', hcase⟩ : ∃ v' w', (Builtin.append_ #[tt, tt] o.type #[.slice A1 l1.length l1.length, .slice A l2.length c]).run P w = .ok v' w' ∧ w'.ownsRow 0 el v.cells.length v' (l1.length + l2.length) (xs ++ news) ∧
                ((v'.ownBlock = (Value.slice none 0 0).ownBlock ∧ w.grownBy w' (Value.slice none 0 0).ownBlock) ∨ (v'.ownBlock = some w.heap.size ∧ w.grownBy w' none)) := by
              cases A1 with
              | none =>
                have h0 := hA1 rfl
                have hx0 : xs = [] := List.eq_nil_of_length_eq_zero (by rw [hxl, h0]; simp)
                rw [h0, hx0]
                have hr3 := hr2
                rw [h0] at hr3
                exact run_append_cases (P := P) w 0 tt o.type el ie z v.cells.length hu hie hz hwid.symm (by rw [hzs, hwid]) (.slice none 0 0) 0 [] (World.ownsRow_nil w _ _ _) A l2.length c news hA hnl hnc hone hr3.1 hr3.2 (Nat.zero_le _)
              | some ad1 =>
                obtain ⟨v', w', q1, q2, q3, q4⟩ := run_append_clip (P := P) w tt o.type el ie z v.cells.length hu hie hz hwid.symm (by rw [hzs, hwid]) ad1 l1.length xs hxl (fun j u hj => hxc ad1 rfl j u hj) A l2.length c news hA hnl hnc hm0 hr2.1 hr2.2
                exact ⟨v', w', q1, q2, .inr ⟨q3, q4⟩⟩
            have hexec : (execOp a.eval o).run P w = .ok (.value v') w' := by
              have ha1 : args = #[sx, x] := by apply Array.ext'; simpa using hargs
              have ha2 : argTypes = #[tt, tt] := by apply Array.ext'; simpa using hats
              unfold execOp; simp only [ho, resolve, invoke, builtin, ha1, ha2]
              simp [hcap, hxv, hrun]
            unfold Oper.wp
            rw [hexec]
            obtain ⟨G', hlat, hm, hτ⟩ := hs.m.appended hp 0 (v := .slice none 0 0) (v' := v') (T := el) (t := v) (n := l1.length) (m := l2.length) (xs := xs) (news := news) (l := l1) (l2 := l2) (e2 := .bin .cat e1' ex)
              (by omega) rfl rfl hxr hnr hk1 hxl hown' hcase (updL σ.live [((p, 0), some (.bin .cat e1' ex, el, v))]) (.inl rfl)
              (by simp [E.lt, x1, y1]) hden (by rw [hden]; exact has_list.2 ⟨_, rfl, ⟨by simpa using hr2.1, by rw [← hbyt]; simpa using hr2.2⟩, fun d hd => by rcases List.mem_append.1 hd with h | h; exact hall1 d h; exact hall2 d h⟩)
              (by
                intro g0 x0 hx0
                unfold updL at hx0
                simp only [lk] at hx0
                by_cases he : g0 = (p, 0)
                · rw [if_pos he] at hx0; simp only [Option.some.injEq] at hx0; exact .inr ⟨he, hx0.symm⟩
                · rw [if_neg he] at hx0; exact .inl ⟨he, hx0⟩)
              (fun hff => by
                have h1 := hfr hff
                unfold frOk at h1
                simp only [ho, hargs, hats, hsv] at h1
                exact ⟨rfl, fun _ => valIn_elems h1 (by omega) hall1 hxl hxr, valIn_elems h1 (by omega) hall2 hnl hnr⟩) hnw
            have hown2 := hm.own (p, 0) (.bin .cat e1' ex) el v (by
              show updL σ.live _ (p, 0) = _
              unfold updL
              simp [lk])
            exact hK _ _ _ (hs.step (o := o) (e := ⟨o.dst, ([], .one (.own (p, 0) (.bin .cat e1' ex) v)), [], [((p, 0), some (.bin .cat e1' ex, el, v))], [], items⟩) hlat (hm.congr (updL_nil _) rfl) rfl
              (by simp [SV.lt, SC.lt, E.lt, x1, y1]) (by simp)
              (by
                intro _
                simp only [condB, List.all_nil, if_true]
                refine ⟨.inr rfl, by simp [E.lt, x1, y1, Cx.add], ?_, hown2.has, hτ.symm⟩
                have := hown2.rep (by omega)
                rw [hτ] at this; exact this) hdst)
          · cases h
        · cases h
      · cases h
    · cases h
  · cases h

end
end Go.Eng
/- Slices of their own kind: operations on their elements, as steps. -/
namespace Go.Eng
open Go Go.RowKit

section
variable {P : Program} {C : Cx} {w w0 : World} {S0 : Base} {G : Gh} {σ : St} {a : Act} {o : Oper} {pc : Cond} {s : SV} {is : List Item} {Φ : Nat → List D → D} {Pre : Nat → List D → Prop} {n p : Nat} {cs : Tbl}

theorem liveX_ok {g : Tag} {t : Ty} {e : E} {T : TypeId} (h : liveX σ g t = some (e, T)) : σ.live g = some (e, T, t) ∧ g.ex = true ∧ 0 < t.cells.length := by
  unfold liveX at h
  split at h
  · rename_i e' T' t' hl
    split at h
    · rename_i hc
      obtain ⟨rfl, h1, h2⟩ := hc
      injection h with h; simp only [Prod.mk.injEq] at h; obtain ⟨rfl, rfl⟩ := h
      exact ⟨hl, h1, h2⟩
    · cases h
  · cases h

theorem updL_same {g : Tag} {x : E × TypeId × Ty} (h : σ.live g = some x) : updL σ.live [(g, some x)] = σ.live := by
  rw [updL_cons, updL_nil]
  funext y
  split
  · rename_i hy; rw [hy, h]
  · rfl

theorem SimM.xElem (hm : SimM w0 S0 C G σ w) {g : Tag} {e : E} {T : TypeId} {t : Ty} (hl : σ.live g = some (e, T, t)) {b k cap : Nat} (hτ : G.τ g = .slice (some ⟨b, 0, none⟩) k cap) :
    ∃ (cur : Array Value) (l : List D), w.heap[b]? = some (.cells cur T (0, 0)) ∧ den C.ρ e = .list l ∧ l.length = k ∧ (∀ d ∈ l, Has t d) ∧ k * t.cells.length ≤ cur.size ∧ lenOk t k ∧
      ∀ (i : Nat) d (j : Nat) c, l[i]? = some d → d.cells[j]? = some c → ∃ v, cur[i * t.cells.length + j]? = some v ∧ Rep w G.S v c := by
  have hok := hm.own g e T t hl
  obtain ⟨xs, l, hd, ⟨hxl, hh⟩, hS, hr⟩ := hok.own
  obtain ⟨l', hl', hlm, hall⟩ := has_list.1 hok.has
  rw [hd] at hl'; injection hl' with hl'; subst hl'
  rcases hh with ⟨hv, _⟩ | ⟨b', cap', cur, hv, _, hcur, hnc, hcm, hcs, htake⟩
  · rw [hτ] at hv; cases hv
  · rw [hτ] at hv
    injection hv with hv1 hv2 hv3
    injection hv1 with hv1
    injection hv1 with hv1
    subst hv1; subst hv2; subst hv3
    refine ⟨cur, l, hcur, hd, rfl, hall, by rw [hcs]; exact Nat.mul_le_mul_right _ hnc, hlm, fun i d j c hi hj => ?_⟩
    have hil : i < l.length := (List.getElem?_eq_some_iff.1 hi).1
    have hwd := (has_cells (hall d (List.mem_of_getElem? hi))).1
    have hjl : j < t.cells.length := by rw [← hwd]; exact (List.getElem?_eq_some_iff.1 hj).1
    have hlt : i * t.cells.length + j < l.length * t.cells.length := by
      have : (i + 1) * t.cells.length ≤ l.length * t.cells.length := Nat.mul_le_mul_right _ hil
      rw [Nat.add_mul] at this; omega
    obtain ⟨v, hxs⟩ : ∃ v, xs[i * t.cells.length + j]? = some v := ⟨_, List.getElem?_eq_getElem (by omega)⟩
    refine ⟨v, ?_, hr i d j _ c hi hj hxs⟩
    rw [← htake, List.getElem?_take, if_pos hlt] at hxs
    simpa using hxs

/-- One element's cells: where they lie. -/
theorem SimM.xCells (hm : SimM w0 S0 C G σ w) {g : Tag} {e i : E} {T : TypeId} {t : Ty} (hl : σ.live g = some (e, T, t)) {b k cap : Nat} (hτ : G.τ g = .slice (some ⟨b, 0, none⟩) k cap) (hi : (den C.ρ i).toI.toNat < k) :
    ∃ (d : D) (uu : Nat → Value), (den C.ρ e).toL[(den C.ρ i).toI.toNat]? = some d ∧ den C.ρ (.bin .idx e i) = d ∧ Has t d ∧ ∀ (j : Nat) c, d.cells[j]? = some c → w.cell? ⟨b, (den C.ρ i).toI.toNat * t.cells.length + j, none⟩ = some (uu j) ∧ Rep w G.S (uu j) c := by
  obtain ⟨cur, l, hcur, hd, hlk, hall, _, _, hr⟩ := hm.xElem hl hτ
  have hli : l[(den C.ρ i).toI.toNat]? = some (l[(den C.ρ i).toI.toNat]'(by omega)) := List.getElem?_eq_getElem _
  refine ⟨_, fun j => cur.toList.getD ((den C.ρ i).toI.toNat * t.cells.length + j) undef, by rw [hd]; exact hli, ?_, hall _ (List.mem_of_getElem? hli), fun j c hj => ?_⟩
  · simp only [den, B.den, hd, D.toL]; exact toL_getD hli
  · obtain ⟨v, hv, hvr⟩ := hr _ _ j c hli hj
    have hv' : cur.toList[(den C.ρ i).toI.toNat * t.cells.length + j]? = some v := by simpa using hv
    have e1 : cur.toList.getD ((den C.ρ i).toI.toNat * t.cells.length + j) undef = v := by simp [List.getD, hv']
    simp only [e1]
    exact ⟨by rw [cell_of_row w b _ cur T (0, 0) hcur]; exact hv, hvr⟩

/-- A step that leaves memory alone. -/
theorem xPlain {ops : Array Oper} {e : Eff} (hs : Sim n w0 S0 C G σ a w) (hg : o.guard = none) {v : Value} (hrun : (execOp a.eval o).run P w = .ok (.value v) w) (hhp : e.hp = []) (hlv : updL σ.live e.live = σ.live)
    (hd : e.dst = o.dst) (hpc : e.ent.1 = []) (hlt : e.ent.2.lt C.N = true) (hv : RSV C w G e.ent.2 v) (hdst : ∀ d, o.dst = some d → d < n) : Stepped1 P n w0 S0 C (e.app σ) p ops a w o := by
  intro K Q hK
  have hw : Region.wanted o (yielded ops a.tmps) = true := by unfold Region.wanted; rw [hg]
  rw [hw, if_pos rfl]
  unfold Oper.wp
  rw [hrun]
  have hlat := Later.addM C w G p
  refine hK _ _ _ (hs.step (o := o) hlat ((hs.m.addM p).congr (by show updL σ.hp e.hp = _; rw [hhp, updL_nil]) hlv) hd hlt (by rw [hpc]; simp) (fun _ => ?_) hdst)
  rw [hpc]
  simp only [condB, List.all_nil, if_true]
  exact hv.later hlat

theorem stepped_xLoad {ops : Array Oper} {e : Eff} (hs : Sim n w0 S0 C G σ a w) (hg : o.guard = none) (h : xLoad P σ o = some e) (hlt : e.ent.2.lt C.N = true) (hdst : ∀ d, o.dst = some d → d < n) :
    Stepped1 P n w0 S0 C (e.app σ) p ops a w o := by
  unfold xLoad at h
  split at h
  · rename_i t x ho
    split at h
    · cases h
    · rename_i hsome
      have hsome : (P.underlying t).isSome = true := by cases hq : P.underlying t <;> simp [hq] at hsome ⊢
      split at h
      · rename_i g i u off hx
        split at h
        · rename_i el T hlx
          simp only [Option.map_eq_some_iff] at h
          obtain ⟨⟨s', is'⟩, h1, rfl⟩ := h
          obtain ⟨hl, hex, hpos⟩ := liveX_ok hlx
          obtain ⟨hM, hilt, b, cap, k, hτ, hi0, hik, hv⟩ := getV_ok hs.t (pc := []) rfl hx
          obtain ⟨d, uu, _, hd, hhas, hc⟩ := hs.m.xCells (i := i) hl hτ hik
          obtain ⟨v, k1, k2⟩ := elemLoad_ok (P := P) (C := C) (w := w) (G := G) (b := b) (o' := (den C.ρ i).toI.toNat * u.cells.length) (uu := uu) h1 hsome (by simp [E.lt, hilt, (hs.m.own _ _ _ _ hl).lt]) (by rw [hd]; exact hhas) (by rw [hd]; exact hc)
          refine xPlain (e := ⟨o.dst, ([], s'), [], [(g, some (el, T, u))], [], []⟩) (v := v) hs hg ?_ rfl (updL_same hl) rfl rfl hlt k2 hdst
          unfold execOp; simp only [ho, hv]
          rw [Sem.run_bind, k1]; rfl
        · cases h
      · cases h
  · cases h

theorem stepped_xLen {ops : Array Oper} {e : Eff} (hs : Sim n w0 S0 C G σ a w) (hg : o.guard = none) (h : xLen P σ o = some e) (hlt : e.ent.2.lt C.N = true) (hdst : ∀ d, o.dst = some d → d < n) :
    Stepped1 P n w0 S0 C (e.app σ) p ops a w o := by
  unfold xLen at h
  split at h
  · rename_i args argTypes ho
    split at h
    · rename_i x t hargs hat
      split at h
      · rename_i el g u hu hx
        split at h
        · rename_i ee T hlx
          injection h with h; subst h
          obtain ⟨hl, hex, hpos⟩ := liveX_ok hlx
          obtain ⟨hM, hv, A, k, cap, hsl⟩ := getV_ok hs.t (pc := []) rfl hx
          have hok := hs.m.own _ _ _ _ hl
          obtain ⟨l, hd, hlm, _⟩ := has_list.1 hok.has
          have hk : k = l.length := by
            obtain ⟨xs, l', hd', ⟨_, hh⟩, _⟩ := hok.own
            rw [hd] at hd'; injection hd' with hd'; subst hd'
            rw [← hv, hsl] at hh
            rcases hh with ⟨hv', hn⟩ | ⟨b', cap', cur, hv', _⟩
            · injection hv' with q1 q2 q3; omega
            · injection hv' with q1 q2 q3
          have hargs' : args = #[x] := by apply Array.ext'; simpa using hargs
          refine xPlain (v := .int .i64 l.length) hs hg ?_ rfl (updL_same hl) rfl rfl hlt ?_ hdst
          · unfold execOp; simp only [ho, resolve, invoke, builtin, hargs']
            simp [Builtin.len_, hat, hsl, run_underlying hu, goInt, hk]
          · refine ⟨by simpa [E.lt] using hok.lt, ?_, ?_⟩
            · simp only [den, U.den, hd, D.toL]; exact .int _ _
            · simp only [den, U.den, hd, D.toL]
              have hlm := hlm.1
              refine has_int.2 ⟨_, rfl, ?_, ?_⟩
              · show IntKind.i64.min ≤ _; simp [IntKind.min, IntKind.signed, IntKind.bits]; try omega
              · show _ ≤ IntKind.i64.max; simp [IntKind.max, IntKind.signed, IntKind.bits]; simp only [maxLen] at hlm; omega
        · cases h
      · cases h
    · cases h
  · cases h

theorem stepped_xIndex {ops : Array Oper} {e : Eff} (hs : Sim n w0 S0 C G σ a w) (hg : o.guard = none) (h : xIndex P σ o = some e) (hit : ∀ it ∈ e.items, ItemOk C Φ Pre it) (hlt : e.ent.2.lt C.N = true) (hdst : ∀ d, o.dst = some d → d < n) :
    Stepped1 P n w0 S0 C (e.app σ) p ops a w o := by
  unfold xIndex at h
  split at h
  · rename_i t x i ho
    split at h
    · rename_i el g u ie k hu hx hi
      split at h
      · rename_i ee T hlx
        split at h
        · rename_i hsz
          injection h with h; subst h
          obtain ⟨hl, hex, hpos⟩ := liveX_ok hlx
          obtain ⟨hM, hv, A, kk, cap, hsl⟩ := getV_ok hs.t (pc := []) rfl hx
          obtain ⟨y1, y2, y3⟩ := getD_ok hs.t (pc := []) rfl hi
          obtain ⟨m, hm, _⟩ := has_int.1 y3
          have hok := hs.m.own _ _ _ _ hl
          obtain ⟨l, hd, hlm, _⟩ := has_list.1 hok.has
          have hob : ItemOk C Φ Pre (.obl [] (.bin .and (.bin .le (.kint k 0) ie) (.bin .lt ie (.un .len ee)))) := hit _ (by simp)
          have hb := hob.2 rfl
          simp only [den, B.den, U.den, hd, hm, D.toI, D.toB, D.toL, Bool.and_eq_true, decide_eq_true_eq] at hb
          obtain ⟨hb0, hb1⟩ := hb
          obtain ⟨xs, l', hd', ⟨_, hh⟩, _⟩ := hok.own
          rw [hd] at hd'; injection hd' with hd'; subst hd'
          rcases hh with ⟨_, hn⟩ | ⟨b, cap', cur, hv', _⟩
          · omega
          · have hvi : a.eval i = .int k m := (hm ▸ y2).inv_int
            have hxv : a.eval x = .slice (some ⟨b, 0, none⟩) l.length cap' := by rw [hv, hv']
            refine xPlain (v := .pointer (some ⟨b, m.toNat * u.cells.length, none⟩)) hs hg ?_ rfl (updL_same hl) rfl rfl hlt ?_ hdst
            · have h1 := run_sizeT (P := P) (w := w) hsz
              unfold execOp; simp only [ho, hxv, hvi, Instr.indexAt, asIntOf]
              simp [run_underlying hu, hb0, hb1, h1, addr_add]
            · refine ⟨hM, y1, b, cap', l.length, hv', ?_, ?_, ?_⟩
              · rw [hm]; exact hb0
              · rw [hm]; simp only [D.toI]; omega
              · rw [hm]; simp only [D.toI]; rw [Nat.add_zero]
        · cases h
      · cases h
    · cases h
  · cases h

theorem ofL_lt {N : Nat} : ∀ (l : List E), (E.ofL l).lt N = true ↔ ∀ e ∈ l, e.lt N = true
  | [] => by simp [E.ofL, E.lt]
  | e :: l => by simp [E.ofL, E.lt, ofL_lt l]

theorem hasL_swap : ∀ {fs : Ty} {l0 l : List D}, HasL fs l0 → HasL (.ofL fs.toL) l → HasL fs l
  | .nil, _, l, _, h => h
  | .cons a b, l0, l, h0, h => by
    obtain ⟨_, r0, _, _, hr0⟩ := has_cons.1 h0
    obtain ⟨x, r, rfl, hx, hr⟩ := has_cons.1 h
    exact has_cons.2 ⟨x, r, rfl, hx, hasL_swap hr0 hr⟩
  | .int _, _, _, h, _ | .bool, _, _, h, _ | .str, _, _, h, _ | .list _, _, _, h, _ | .agg _, _, _, h, _ | .tup _, _, _, h, _ | .box _, _, _, h, _ | .ptr _, _, _, h, _ | .fn _ _, _, _, h, _ => h.elim

theorem cells_scalar {u : Ty} {d : D} (hs : u.scalar = true) (h : Has u d) : u.cells = [u] ∧ d.cells = [d] := by
  have hu : u.cells = [u] := by cases u <;> first | rfl | cases hs
  refine ⟨hu, ?_⟩
  cases d <;> first | rfl | (rename_i l; exfalso; cases u <;> simp [Ty.scalar] at hs <;> simp [has_int, has_bool, has_str, has_list, has_box, has_ptr, has_fn] at h)

theorem setElE_ok {u : Ty} {el x : E} {off : Nat} {es : List E} {ts : List Ty} (h : setElE u el off es = some x) (hel : el.lt C.N = true) (hes : (E.ofL es).lt C.N = true) (hu : Has u (den C.ρ el))
    (hle : off + es.length ≤ u.cells.length) (hts : ts = (u.cells.drop off).take es.length) (hh : HasL (.ofL ts) (es.map (den C.ρ))) :
    x.lt C.N = true ∧ Has u (den C.ρ x) ∧ ∀ (j : Nat) c, (den C.ρ x).cells[j]? = some c → if off ≤ j ∧ j < off + es.length then (es[j - off]?).map (den C.ρ) = some c else (den C.ρ el).cells[j]? = some c := by
  have hesl := (ofL_lt es).1 hes
  unfold setElE at h
  split at h
  · rename_i fs
    injection h with h; subst h
    obtain ⟨l0, hl0, hh0⟩ := has_agg.1 hu
    have hlen := hasL_len hh0
    have hmap : ((cellsE el 0 fs.toL).map (·.1)).map (den C.ρ) = l0 := by
      apply List.ext_getElem?
      intro i
      simp only [List.getElem?_map, cellsE_get, Option.map_map]
      cases hi : (fs.toL)[i]? with
      | none =>
        have : l0.length ≤ i := by rw [hlen]; exact List.getElem?_eq_none_iff.1 hi
        simp [List.getElem?_eq_none this]
      | some t =>
        obtain ⟨y, hy, _⟩ := hasL_get hh0 i t hi
        simp only [Option.map_some, Function.comp, den, U.den, hl0, D.toL, Nat.zero_add, toL_getD hy, hy]
    have hle' : off + es.length ≤ l0.length := by rw [hlen]; exact hle
    have hden : den C.ρ (.un .agg (.ofL (((cellsE el 0 fs.toL).map (·.1)).take off ++ es ++ ((cellsE el 0 fs.toL).map (·.1)).drop (off + es.length)))) = .agg (l0.take off ++ es.map (den C.ρ) ++ l0.drop (off + es.length)) := by
      simp only [den, den_ofL, U.den, D.toL, List.map_append, List.map_take, List.map_drop, hmap]
    have hget : ∀ (j : Nat) c, (l0.take off ++ es.map (den C.ρ) ++ l0.drop (off + es.length))[j]? = some c → if off ≤ j ∧ j < off + es.length then (es[j - off]?).map (den C.ρ) = some c else l0[j]? = some c := by
      intro j c hj
      have h1 : (l0.take off).length = off := by rw [List.length_take]; omega
      split
      · rename_i hc
        rw [List.getElem?_append_left (by simp [h1]; omega), List.getElem?_append_right (by omega), h1] at hj
        simpa using hj
      · rename_i hc
        by_cases hjo : j < off
        · rw [List.getElem?_append_left (by simp [h1]; omega), List.getElem?_append_left (by omega), List.getElem?_take, if_pos hjo] at hj; exact hj
        · rw [List.getElem?_append_right (by simp [h1]; omega)] at hj
          simp only [List.length_append, h1, List.length_map, List.getElem?_drop] at hj
          rw [show off + es.length + (j - (off + es.length)) = j by omega] at hj; exact hj
    refine ⟨?_, ?_, ?_⟩
    · simp only [E.lt]
      rw [ofL_lt]
      have hcl : ∀ e ∈ (cellsE el 0 fs.toL).map (·.1), e.lt C.N = true := by
        intro e he
        obtain ⟨i, hi⟩ := List.getElem?_of_mem he
        simp only [List.getElem?_map, cellsE_get, Option.map_map, Option.map_eq_some_iff] at hi
        obtain ⟨_, _, rfl⟩ := hi
        simpa [E.lt] using hel
      intro e he
      simp only [List.mem_append] at he
      rcases he with (he | he) | he
      · exact hcl e (List.mem_of_mem_take he)
      · exact hesl e he
      · exact hcl e (List.mem_of_mem_drop he)
    · rw [hden]
      refine has_agg.2 ⟨_, rfl, hasL_swap hh0 (hasL_mk ?_ fun j t y hj hy => ?_)⟩
      · simp only [List.length_append, List.length_take, List.length_map, List.length_drop]; omega
      · have := hget j y hy
        split at this
        · rename_i hc
          have ht : ts[j - off]? = some t := by
            rw [hts, List.getElem?_take, if_pos (by omega), List.getElem?_drop, show off + (j - off) = j by omega]; exact hj
          obtain ⟨z, hz, hzt⟩ := hasL_get hh (j - off) t (by rw [Ty.toL_ofL]; exact ht)
          simp only [List.getElem?_map] at hz
          rw [this] at hz; injection hz with hz; subst hz; exact hzt
        · obtain ⟨z, hz, hzt⟩ := hasL_get hh0 j t hj
          rw [this] at hz; injection hz with hz; subst hz; exact hzt
    · rw [hden]
      intro j c hj
      have := hget j c hj
      rw [hl0]; exact this
  · rename_i x' _
    split at h
    · rename_i hc
      obtain ⟨rfl, hsc⟩ := hc
      injection h with h; subst h
      have hxx : Has u (den C.ρ x') := by
        have hc1 : u.cells = [u] := by cases u <;> first | rfl | cases hsc
        rw [hc1] at hts
        simp at hts
        subst hts
        obtain ⟨z, hz, hzt⟩ := hasL_get hh 0 u (by simp [Ty.ofL, Ty.toL])
        simp at hz; subst hz; exact hzt
      refine ⟨hesl x' (by simp), hxx, fun j c hj => ?_⟩
      rw [(cells_scalar hsc hxx).2] at hj
      cases j with
      | zero => simp at hj ⊢; exact hj
      | succ j => simp at hj
    · cases h
  · cases h

theorem stepped_xStore {ops : Array Oper} {e : Eff} (hs : Sim n w0 S0 C G σ a w) (hg : o.guard = none) (h : xStore P σ o = some e) : Stepped1 P n w0 S0 C (e.app σ) p ops a w o := by
  unfold xStore at h
  split at h
  · rename_i t x y ho
    split at h
    · rename_i g i u off es ts sz hx hy hsz
      split at h
      · rename_i el T hlx
        split at h
        · rename_i hcnd
          obtain ⟨hn, hle, hts, hsc, hd⟩ := hcnd
          simp only [Option.map_eq_some_iff] at h
          obtain ⟨xe, hxe, rfl⟩ := h
          obtain ⟨hl, hex, hpos⟩ := liveX_ok hlx
          obtain ⟨hM, hilt, b, cap, k, hτ, hi0, hik, hv⟩ := getV_ok hs.t (pc := []) rfl hx
          obtain ⟨cur, l, hcur, hden, hlk, hall, hcsz, hlo, hr⟩ := hs.m.xElem hl hτ
          obtain ⟨d, _, hld, hdd, hdh, _⟩ := hs.m.xCells (i := i) hl hτ hik
          rw [hden] at hld
          simp only [D.toL] at hld
          generalize hI : (den C.ρ i).toI.toNat = I at *
          have hwd := (has_cells hdh).1
          -- the values
          obtain ⟨us, hus, hru⟩ : ∃ us : List Value, (a.eval y).cells = us.toArray ∧ (E.ofL es).lt C.N = true ∧ es.length = us.length ∧ ts.length = us.length ∧ (∀ (i : Nat) v e, us[i]? = some v → es[i]? = some e → Rep w G.S v (den C.ρ e)) ∧ HasL (.ofL ts) (es.map (den C.ρ)) ∧ ∀ u ∈ us, u.oneCell' = true := by
            cases hgy : getV P σ [] y t with
            | none => simp [hgy] at hy
            | some sv =>
              simp only [hgy, Option.bind_some] at hy
              cases hac : asCells sv with
              | none => simp [hac] at hy
              | some csl =>
                simp only [hac, Option.bind_some] at hy
                have hscs : csl.all SC.scalar = true := by
                  rw [List.all_eq_true]
                  intro c hc
                  obtain ⟨j, hj⟩ := List.getElem?_of_mem hc
                  have : ∀ {l : List SC} {es : List E} {ts : List Ty} {j : Nat} {c : SC}, asDatas l = some (es, ts) → ts.all Ty.scalar = true → l[j]? = some c → c.scalar = true := by
                    intro l
                    induction l with
                    | nil => intro es ts j c _ _ hj; simp at hj
                    | cons c0 l ih =>
                      intro es ts j c h hs hj
                      simp only [asDatas] at h
                      split at h
                      · rename_i e0 t0 es' ts' h1 h2
                        injection h with h; simp only [Prod.mk.injEq] at h; obtain ⟨rfl, rfl⟩ := h
                        simp only [List.all_cons, Bool.and_eq_true] at hs
                        cases j with
                        | zero =>
                          simp at hj; subst hj
                          cases c0 <;> simp only [asData] at h1 <;> first
                            | rfl
                            | (injection h1 with h1; simp only [Prod.mk.injEq] at h1; obtain ⟨_, rfl⟩ := h1; exact hs.1)
                        | succ j => exact ih h2 hs.2 (by simpa using hj)
                      · cases h
                  exact this hy hsc hj
                obtain ⟨us, h1, h2⟩ := asCells_ok hac (getV_ok hs.t (pc := []) rfl hgy) hscs
                obtain ⟨m1, m2, m3, m4, m5⟩ := asDatas_ok hy h2
                refine ⟨us, h1, m1, m2, m3, m4, m5, fun v hv => ?_⟩
                obtain ⟨j, hj⟩ := List.getElem?_of_mem hv
                have hjl : j < us.length := (List.getElem?_eq_some_iff.1 hj).1
                have hcj : csl[j]? = some (csl[j]'(by rw [← h2.1]; exact hjl)) := List.getElem?_eq_getElem _
                exact (h2.2 j _ v hcj hj).oneCell (List.all_eq_true.1 hscs _ (List.mem_of_getElem? hcj))
          obtain ⟨heslt, hesl, htsl, hrep, hhl, hone⟩ := hru
          have hlt1 : (E.bin .idx el i).lt C.N = true := by simp [E.lt, (hs.m.own _ _ _ _ hl).lt, hilt]
          obtain ⟨hxlt, hxh, hxc⟩ := setElE_ok (C := C) hxe hlt1 heslt (by rw [hdd]; exact hdh) (by rw [hn]; exact hle) (by rw [hn]; exact hts) hhl
          rw [hdd] at hxc
          generalize hd' : den C.ρ xe = d' at *
          have hIl : I < l.length := by omega
          have hwd' := (has_cells hxh).1
          let l' := l.take I ++ d' :: (l.drop I).drop 1
          have hl'len : l'.length = l.length := by simp only [l', List.length_append, List.length_take, List.length_cons, List.length_drop]; omega
          have hdl' : den C.ρ (setLE el i xe) = .list l' := by
            have : den C.ρ (setLE el i xe) = .list (l.take (den C.ρ i).toI.toNat ++ d' :: (l.drop (den C.ρ i).toI.toNat).drop 1) := by simp only [setLE, den, B.den, hden, D.toL, hd']; rfl
            rw [this, hI]
          have hl'get : ∀ (q : Nat) dd, l'[q]? = some dd → (q = I ∧ dd = d') ∨ (q ≠ I ∧ l[q]? = some dd) := by
            intro q dd hq
            have h1 : (l.take I).length = I := by rw [List.length_take]; omega
            by_cases hqi : q < I
            · simp only [l'] at hq
              rw [List.getElem?_append_left (by omega), List.getElem?_take, if_pos hqi] at hq
              exact .inr ⟨by omega, hq⟩
            · simp only [l'] at hq
              rw [List.getElem?_append_right (by omega), h1] at hq
              by_cases hqe : q = I
              · rw [hqe, Nat.sub_self] at hq; simp at hq; exact .inl ⟨hqe, hq.symm⟩
              · rw [show q - I = (q - I - 1) + 1 by omega, List.getElem?_cons_succ, List.getElem?_drop, List.getElem?_drop] at hq
                rw [show I + (1 + (q - I - 1)) = q by omega] at hq
                exact .inr ⟨hqe, hq⟩
          have hbound : (I + 1) * u.cells.length ≤ k * u.cells.length := Nat.mul_le_mul_right _ (by omega)
          have hb2 : (I + 1) * u.cells.length = I * u.cells.length + u.cells.length := by rw [Nat.add_mul, Nat.one_mul]
          have hfit : I * u.cells.length + off + us.length ≤ cur.size := by omega
          have hst := run_storeCells_at P b (I * u.cells.length + off) T us 0 cur w hcur (by simpa using hfit) hone
          simp only [Nat.add_zero] at hst
          have hrun : (execOp a.eval o).run P w = .ok .skip (w.setRow b (cur.toList.take (I * u.cells.length + off) ++ us ++ cur.toList.drop (I * u.cells.length + off + us.length)).toArray) := by
            have h1 := run_sizeT (P := P) (w := w) hsz
            unfold execOp; simp only [ho, hv, Instr.storeAt, Instr.sureAddr]
            simp [storeVar, h1, hus, hst, ← hesl, hn]
          intro K Q hK
          have hw : Region.wanted o (yielded ops a.tmps) = true := by unfold Region.wanted; rw [hg]
          rw [hw, if_pos rfl]
          unfold Oper.wp
          rw [hrun]
          obtain ⟨hlat, hm⟩ := hs.m.setX hl hex (e' := setLE el i xe) (live' := updL σ.live [(g, some (setLE el i xe, T, u))]) (l' := l') (row := (cur.toList.take (I * u.cells.length + off) ++ us ++ cur.toList.drop (I * u.cells.length + off + us.length)).toArray)
            (by
              intro g' x' hx'
              rw [updL_cons, updL_nil] at hx'
              have hx' : (if g' = g then some (setLE el i xe, T, u) else σ.live g') = some x' := hx'
              by_cases he : g' = g
              · rw [if_pos he] at hx'; injection hx' with hx'; exact .inr ⟨he, hx'.symm⟩
              · rw [if_neg he] at hx'; exact .inl ⟨he, hx'⟩) hτ hcur (by simp; omega)
            (by simp [setLE, E.lt, (hs.m.own _ _ _ _ hl).lt, hilt, hxlt]) hdl' (by rw [hl'len, hlk])
            (by
              rw [hdl']
              refine has_list.2 ⟨l', rfl, by rw [hl'len, hlk]; exact hlo, fun z hz => ?_⟩
              obtain ⟨q, hq⟩ := List.getElem?_of_mem hz
              rcases hl'get q z hq with ⟨_, rfl⟩ | ⟨_, hq'⟩
              · exact hxh
              · exact hall z (List.mem_of_getElem? hq'))
            (by
              intro q dd j v c hq hj hvv
              have htl : (cur.toList.take (I * u.cells.length + off)).length = I * u.cells.length + off := by
                have hcl : cur.toList.length = cur.size := by simp
                rw [List.length_take, hcl]; omega
              have rowOut : ∀ z, (z < I * u.cells.length + off ∨ I * u.cells.length + off + us.length ≤ z) → (cur.toList.take (I * u.cells.length + off) ++ us ++ cur.toList.drop (I * u.cells.length + off + us.length)).toArray[z]? = cur[z]? := by
                intro z hz
                rw [List.getElem?_toArray]
                rcases hz with hz | hz
                · rw [List.getElem?_append_left (by rw [List.length_append, htl]; omega), List.getElem?_append_left (by omega), List.getElem?_take, if_pos hz]; simp
                · rw [List.getElem?_append_right (by rw [List.length_append, htl]; omega), List.getElem?_drop, List.length_append, htl]
                  rw [show I * u.cells.length + off + us.length + (z - (I * u.cells.length + off + us.length)) = z by omega]; simp
              have old : ∀ (q : Nat) dd, l[q]? = some dd → dd.cells[j]? = some c → (q * u.cells.length + j < I * u.cells.length + off ∨ I * u.cells.length + off + us.length ≤ q * u.cells.length + j) → (cur.toList.take (I * u.cells.length + off) ++ us ++ cur.toList.drop (I * u.cells.length + off + us.length)).toArray[q * u.cells.length + j]? = some v → Rep w G.S v c := by
                intro q dd hq hj hz hvv
                rw [rowOut _ hz] at hvv
                obtain ⟨v0, hv0, hv1⟩ := hr q dd j c hq hj
                rw [hvv] at hv0; injection hv0 with hv0; subst hv0; exact hv1
              rcases hl'get q dd hq with ⟨rfl, rfl⟩ | ⟨hne, hq'⟩
              · have hc := hxc j c hj
                split at hc
                · rename_i hjo
                  rw [List.getElem?_toArray, List.getElem?_append_left (by rw [List.length_append, htl]; omega), List.getElem?_append_right (by omega), htl] at hvv
                  rw [show q * u.cells.length + j - (q * u.cells.length + off) = j - off by omega] at hvv
                  cases hej : es[j - off]? with
                  | none => rw [hej] at hc; cases hc
                  | some ee =>
                    rw [hej] at hc
                    simp only [Option.map_some, Option.some.injEq] at hc
                    rw [← hc]
                    exact hrep _ v ee hvv hej
                · rename_i hjo
                  exact old q d hld hc (by omega) hvv
              · have hjl : j < u.cells.length := by rw [← (has_cells (hall dd (List.mem_of_getElem? hq'))).1]; exact (List.getElem?_eq_some_iff.1 hj).1
                refine old q dd hq' hj ?_ hvv
                rcases Nat.lt_or_gt_of_ne hne with h1 | h1
                · have : (q + 1) * u.cells.length ≤ I * u.cells.length := Nat.mul_le_mul_right _ h1
                  rw [Nat.add_mul] at this; omega
                · have : (I + 1) * u.cells.length ≤ q * u.cells.length := Nat.mul_le_mul_right _ h1
                  omega)
          have hlat' := hlat.trans (Later.addM C _ G p)
          exact hK _ _ _ (hs.step (o := o) (e := ⟨none, ([], .agg []), [], [(g, some (setLE el i xe, T, u))], [], []⟩) hlat' ((hm.addM p).congr (updL_nil _) rfl) hd.symm rfl (by simp)
            (v := undef) (by rintro ⟨d, hd'⟩; rw [hd] at hd'; cases hd') (by intro d hd'; rw [hd] at hd'; cases hd'))
        · cases h
      · cases h
    · cases h
  · cases h
end
end Go.Eng
