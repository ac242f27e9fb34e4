/-
  A run of the code in plain data, and that it is sound (5).
-/
import Derived.Test.YtippnelhkdjknaaE4
/- Regions: in the text's order, and in whatever order their edges allow. -/
namespace Go.Eng
open Go Go.RowKit

/-- A region's operations one behind the other, from position p0 on; all variables below N. -/
def regEffs (P : Program) (cs : Tbl) (ops : Array Oper) (p0 N : Nat) : List Nat → St → Option (List (Nat × Eff) × St)
  | [], σ => some ([], σ)
  | i :: r, σ =>
    match ops[i]? with
    | some o => match effOpF P cs ops σ (p0 + i) o with
      | some e =>
        if e.ent.2.lt N = true then
          match regEffs P cs ops p0 N r (e.app σ) with
          | some (l, σ') => some ((i, e) :: l, σ')
          | none => none
        else none
      | none => none
    | none => none

inductive Runs (P : Program) (cs : Tbl) (ops : Array Oper) (p0 N : Nat) : List (Nat × Eff) → St → St → Prop
  | nil (σ : St) : Runs P cs ops p0 N [] σ σ
  | cons {i : Nat} {o : Oper} {e : Eff} {r : List (Nat × Eff)} {σ σ' : St} (ho : ops[i]? = some o) (he : ∃ d, effOpD d P cs ops σ (p0 + i) o = some e) (hlt : e.ent.2.lt N = true) (hr : Runs P cs ops p0 N r (e.app σ) σ') :
    Runs P cs ops p0 N ((i, e) :: r) σ σ'

section
variable {P : Program} {cs : Tbl} {ops : Array Oper} {p0 N : Nat}

theorem regEffs_runs : ∀ {l : List Nat} {σ σ' : St} {r : List (Nat × Eff)}, regEffs P cs ops p0 N l σ = some (r, σ') → Runs P cs ops p0 N r σ σ' ∧ r.map (·.1) = l
  | [], σ, σ', r, h => by simp only [regEffs, Option.some.injEq, Prod.mk.injEq] at h; obtain ⟨rfl, rfl⟩ := h; exact ⟨.nil _, rfl⟩
  | i :: l, σ, σ', r, h => by
    simp only [regEffs] at h
    split at h
    · rename_i o ho
      split at h
      · rename_i e he
        split at h
        · rename_i hlt
          split at h
          · rename_i r' σ'' hr
            injection h with h; simp only [Prod.mk.injEq] at h; obtain ⟨rfl, rfl⟩ := h
            obtain ⟨h1, h2⟩ := regEffs_runs hr
            exact ⟨.cons ho ⟨none, he⟩ hlt h1, by simp [h2]⟩
          · cases h
        · cases h
      · cases h
    · cases h

/-- Two effects that may change places. -/
def indep (ops : Array Oper) (x y : Nat × Eff) : Bool :=
  (match ops[x.1]?, ops[y.1]? with
    | some ox, some oy => ox.apart ops oy
    | _, _ => false) &&
  (x.2.dst == ((ops[x.1]?).bind (·.dst))) && (y.2.dst == ((ops[y.1]?).bind (·.dst))) &&
  (x.2.hp.all fun a => (y.2.hp.all fun b => a.1 != b.1) && y.2.rd.all fun b => a.1 != b) && (y.2.hp.all fun b => x.2.rd.all fun a => b.1 != a) &&
  (x.2.live.all fun a => y.2.live.all fun b => a.1 != b.1)

theorem updL_apart {α β : Type} [DecidableEq α] (h : α → β) (l m : List (α × β)) (hd : ∀ a ∈ l, ∀ b ∈ m, a.1 ≠ b.1) : updL (updL h l) m = updL (updL h m) l := by
  funext x
  unfold updL
  cases h1 : lk m x with
  | none => cases h2 : lk l x <;> rfl
  | some v =>
    cases h2 : lk l x with
    | none => rfl
    | some u => exact absurd rfl (hd (x, u) (lk_mem h2) (x, v) (lk_mem h1))

theorem updL_other {α β : Type} [DecidableEq α] (h : α → β) (l : List (α × β)) (x : α) (hd : ∀ a ∈ l, a.1 ≠ x) : updL h l x = h x := by
  unfold updL
  cases h1 : lk l x with
  | none => rfl
  | some v => exact absurd rfl (hd _ (lk_mem h1))

theorem Runs.swap {x y : Nat × Eff} {r : List (Nat × Eff)} {σ σ' : St} (hi : indep ops x y = true) (h : Runs P cs ops p0 N (x :: y :: r) σ σ') : Runs P cs ops p0 N (y :: x :: r) σ σ' := by
  obtain ⟨i, ex⟩ := x
  obtain ⟨j, ey⟩ := y
  cases h with
  | cons hox hex hltx hr =>
    cases hr with
    | cons hoy hey hlty hr =>
      rename_i ox oy
      unfold indep at hi
      simp only [hox, hoy, Option.bind_some, Bool.and_eq_true, beq_iff_eq] at hi
      obtain ⟨⟨⟨⟨⟨hap, hdx⟩, hdy⟩, hhp⟩, hhp2⟩, hlv⟩ := hi
      obtain ⟨a1, a2, a3⟩ := Oper.apart_spec hap
      have hhp' : ∀ a ∈ ex.hp, (∀ b ∈ ey.hp, a.1 ≠ b.1) ∧ ∀ b ∈ ey.rd, a.1 ≠ b := by
        intro a ha
        have := List.all_eq_true.1 hhp a ha
        simp only [Bool.and_eq_true, List.all_eq_true, bne_iff_ne] at this
        exact this
      have hhp2' : ∀ b ∈ ey.hp, ∀ a ∈ ex.rd, b.1 ≠ a := by
        intro b hb a ha
        have := List.all_eq_true.1 (List.all_eq_true.1 hhp2 b hb) a ha
        simpa using this
      have hlv' : ∀ a ∈ ex.live, ∀ b ∈ ey.live, a.1 ≠ b.1 := by
        intro a ha b hb
        have := List.all_eq_true.1 (List.all_eq_true.1 hlv a ha) b hb
        simpa using this
      have tmx : ∀ t, t ∈ oy.looksAt ops → (ex.app σ).tm t = σ.tm t := by
        intro t ht
        unfold Eff.app
        rw [hdx]
        cases hd : ox.dst with
        | none => rfl
        | some d => exact upd_ne _ _ (fun e => a1 d hd (e ▸ ht))
      have tmy : ∀ t, t ∈ ox.looksAt ops → (ey.app σ).tm t = σ.tm t := by
        intro t ht
        unfold Eff.app
        rw [hdy]
        cases hd : oy.dst with
        | none => rfl
        | some d => exact upd_ne _ _ (fun e => a3 d hd (e ▸ ht))
      obtain ⟨dy, hey⟩ := hey
      obtain ⟨dx, hex⟩ := hex
      have hy : effOpD dy P cs ops σ (p0 + j) oy = some ey := effOpD_congr hey (fun t ht => (tmx t ht).symm)
        (fun id hid => (updL_other _ _ _ (fun a ha => (hhp' a ha).2 id hid)).symm) (fun z hz => (updL_other _ _ _ (fun a ha => hlv' a ha z hz)).symm)
      have hx : effOpD dx P cs ops (ey.app σ) (p0 + i) ox = some ex := effOpD_congr hex tmy
        (fun id hid => updL_other _ _ _ (fun b hb => hhp2' b hb id hid)) (fun z hz => updL_other _ _ _ (fun b hb => (hlv' z hz b hb).symm))
      have hcomm : ex.app (ey.app σ) = ey.app (ex.app σ) := by
        unfold Eff.app
        rw [hdx, hdy]
        simp only [St.mk.injEq]
        refine ⟨?_, updL_apart _ _ _ (fun b hb a ha => ((hhp' a ha).1 b hb).symm), updL_apart _ _ _ (fun b hb a ha => (hlv' a ha b hb).symm)⟩
        cases hd : ox.dst with
        | none => rfl
        | some d =>
          cases hd' : oy.dst with
          | none => rfl
          | some d' =>
            have hne : d ≠ d' := fun e => a2 d hd (e ▸ hd')
            funext t
            simp only [upd]
            by_cases h1 : t = d
            · subst h1; simp [hne]
            · simp [h1]
      exact .cons hoy ⟨dy, hy⟩ hlty (.cons hox ⟨dx, hx⟩ hltx (hcomm ▸ hr))

theorem Runs.pull {x : Nat × Eff} : ∀ {l r : List (Nat × Eff)} {σ σ' : St}, (∀ y ∈ l, indep ops y x = true) → Runs P cs ops p0 N (l ++ x :: r) σ σ' → Runs P cs ops p0 N (x :: (l ++ r)) σ σ'
  | [], _, _, _, _, h => h
  | y :: l, r, σ, σ', hi, h => by
    cases h with
    | cons ho he hlt hr =>
      have ih := Runs.pull (l := l) (fun z hz => hi z (List.mem_cons_of_mem _ hz)) hr
      exact Runs.swap (hi _ (List.mem_cons_self ..)) (.cons ho he hlt ih)

variable {C : Cx} {G : Gh} {w w0 : World} {S0 : Base} {σ : St} {a : Act} {n : Nat} {Φ : Nat → List D → D} {Pre : Nat → List D → Prop}

theorem Later.moreM (C : Cx) (w : World) (G : Gh) {M' : Nat → Prop} (h : ∀ i, C.M i → M' i) : Later C w G { C with M := M' } w G :=
  ⟨fun _ h => ⟨rfl, h⟩, h, fun _ _ h => h, fun _ _ _ => rfl, fun _ _ => rfl, fun _ _ => rfl⟩

theorem SimM.later_same {C' : Cx} (h : SimM w0 S0 C G σ w) (hlat : Later C w G C' w G) : SimM w0 S0 C' G σ w where
  below := h.below
  foot0 := h.foot0
  keep := h.keep
  pin i b hi := ⟨hlat.M _ (h.pin i b hi).1, (h.pin i b hi).2⟩
  pinmu := h.pinmu
  footlt := h.footlt
  footnew := h.footnew
  boxM id x hx := hlat.M _ (h.boxM id x hx)
  box id ro cs hx := by
    obtain ⟨h1, h2, h3, h5⟩ := h.box id ro cs hx
    exact ⟨h1, h2, h3.later hlat rfl, h5⟩
  inj := h.inj
  own g e T t hx := (h.own g e T t hx).later hlat (fun _ _ => rfl) (fun _ _ _ h => h)
  ownnew := h.ownnew
  ownne := h.ownne
  ownbox := h.ownbox
  fresh := h.fresh
  wz := h.wz

theorem Sim.later_same {C' : Cx} (h : Sim n w0 S0 C G σ a w) (hlat : Later C w G C' w G) : Sim n w0 S0 C' G σ a w :=
  ⟨h.m.later_same hlat, h.t.later hlat, h.sz, h.defers⟩

/-- What every operation of a run needs. -/
structure RunOk (P : Program) (cs : Tbl) (ops : Array Oper) (p0 n : Nat) (S0 : Base) (C : Cx) (Φ : Nat → List D → D) (Pre : Nat → List D → Prop) (r : List (Nat × Eff)) : Prop where
  con : ∀ k sig, lk cs.l k = some sig → PureFn P k sig (Pre k) (Φ k)
  items : ∀ x ∈ r, ∀ it ∈ x.2.items, ItemOk C Φ Pre it
  pos : ∀ x ∈ r, p0 + x.1 < C.N
  dst : ∀ (i : Nat) o d, ops[i]? = some o → o.dst = some d → d < n
  fr : Env1 P cs S0 Φ Pre

theorem RunOk.tail {x : Nat × Eff} {r : List (Nat × Eff)} (h : RunOk P cs ops p0 n S0 C Φ Pre (x :: r)) : RunOk P cs ops p0 n S0 C Φ Pre r :=
  ⟨h.con, fun y hy => h.items y (List.mem_cons_of_mem _ hy), fun y hy => h.pos y (List.mem_cons_of_mem _ hy), h.dst, h.fr⟩

theorem ItemOk.add {p : Nat} {it : Item} (h : ItemOk C Φ Pre it) : ItemOk (C.add p) Φ Pre it := by cases it <;> exact h
theorem RunOk.add {p : Nat} {r : List (Nat × Eff)} (h : RunOk P cs ops p0 n S0 C Φ Pre r) : RunOk P cs ops p0 n S0 (C.add p) Φ Pre r :=
  ⟨h.con, fun x hx it hit => (h.items x hx it hit).add, h.pos, h.dst, h.fr⟩

/-- A region in the text's order. -/
theorem wpOps_runs {Q : Exit → Act → World → Prop} : ∀ {r : List (Nat × Eff)} {σ σ' : St} {C : Cx} {G : Gh} {a : Act} {w : World}, Runs P cs ops p0 C.N r σ σ' → RunOk P cs ops p0 n S0 C Φ Pre r → Sim n w0 S0 C G σ a w →
    (r.map (·.1)).Nodup → (∀ x ∈ r, ¬ C.M (p0 + x.1)) →
    (∀ a' w' G' M', (∀ i, M' i → C.M i ∨ ∃ x ∈ r, i = p0 + x.1) → Sim n w0 S0 { C with M := M' } G' σ' a' w' → Q .normal a' w') → wpOps P ops Q (r.map (·.1)) a w
  | [], σ, σ', C, G, a, w, h, _, hs, _, _, hQ => by
    cases h
    exact hQ a w G C.M (fun i hi => .inl hi) hs
  | (i, e) :: r, σ, σ', C, G, a, w, h, hok, hs, hnd, hM, hQ => by
    cases h with
    | cons ho he hlt hr =>
      rename_i o
      simp only [List.map_cons, List.nodup_cons] at hnd
      have hp : ¬ C.M (p0 + i) := hM (i, e) (List.mem_cons_self ..)
      have hstep := effOpD_ok hs he.choose_spec hp (hok.pos (i, e) (List.mem_cons_self ..)) hok.con hlt (hok.items (i, e) (List.mem_cons_self ..)) (fun d hd => hok.dst i o d ho hd) hok.fr
      have hnext : ∀ a' w' G', Sim n w0 S0 (C.add (p0 + i)) G' (e.app σ) a' w' → wpOps P ops Q (r.map (·.1)) a' w' := by
        intro a' w' G' hs'
        refine wpOps_runs (C := C.add (p0 + i)) hr hok.tail.add hs' hnd.2 ?_ ?_
        · rintro x hx (hm | hm)
          · exact hM x (List.mem_cons_of_mem _ hx) hm
          · have : x.1 = i := by omega
            exact hnd.1 (List.mem_map.2 ⟨x, hx, this⟩)
        · intro a'' w'' G'' M' hM' hs''
          refine hQ a'' w'' G'' M' (fun j hj => ?_) hs''
          rcases hM' j hj with (h1 | h1) | ⟨x, hx, h1⟩
          · exact .inl h1
          · exact .inr ⟨(i, e), List.mem_cons_self .., h1⟩
          · exact .inr ⟨x, List.mem_cons_of_mem _ hx, h1⟩
      have hthis := hstep (wpOps P ops Q (r.map (·.1))) Q hnext
      simp only [List.map_cons, wpOps, ho]
      split
      · rename_i hw; rw [if_pos hw] at hthis; exact .inl hthis
      · rename_i hw; rw [if_neg hw] at hthis; exact hthis

/-- A piece of a region in the text's order. -/
theorem wpOps_runs_rest {Q : Exit → Act → World → Prop} (rest : List Nat) : ∀ {r : List (Nat × Eff)} {σ σ' : St} {C : Cx} {G : Gh} {a : Act} {w : World}, Runs P cs ops p0 C.N r σ σ' → RunOk P cs ops p0 n S0 C Φ Pre r → Sim n w0 S0 C G σ a w →
    (r.map (·.1)).Nodup → (∀ x ∈ r, ¬ C.M (p0 + x.1)) →
    (∀ a' w' G' M', (∀ i, M' i → C.M i ∨ ∃ x ∈ r, i = p0 + x.1) → Sim n w0 S0 { C with M := M' } G' σ' a' w' → wpOps P ops Q rest a' w') → wpOps P ops Q (r.map (·.1) ++ rest) a w
  | [], σ, σ', C, G, a, w, h, _, hs, _, _, hQ => by
    cases h
    exact hQ a w G C.M (fun i hi => .inl hi) hs
  | (i, e) :: r, σ, σ', C, G, a, w, h, hok, hs, hnd, hM, hQ => by
    cases h with
    | cons ho he hlt hr =>
      rename_i o
      simp only [List.map_cons, List.nodup_cons] at hnd
      have hp : ¬ C.M (p0 + i) := hM (i, e) (List.mem_cons_self ..)
      have hstep := effOpD_ok hs he.choose_spec hp (hok.pos (i, e) (List.mem_cons_self ..)) hok.con hlt (hok.items (i, e) (List.mem_cons_self ..)) (fun d hd => hok.dst i o d ho hd) hok.fr
      have hnext : ∀ a' w' G', Sim n w0 S0 (C.add (p0 + i)) G' (e.app σ) a' w' → wpOps P ops Q (r.map (·.1) ++ rest) a' w' := by
        intro a' w' G' hs'
        refine wpOps_runs_rest rest (C := C.add (p0 + i)) hr hok.tail.add hs' hnd.2 ?_ ?_
        · rintro x hx (hm | hm)
          · exact hM x (List.mem_cons_of_mem _ hx) hm
          · have : x.1 = i := by omega
            exact hnd.1 (List.mem_map.2 ⟨x, hx, this⟩)
        · intro a'' w'' G'' M' hM' hs''
          refine hQ a'' w'' G'' M' (fun j hj => ?_) hs''
          rcases hM' j hj with (h1 | h1) | ⟨x, hx, h1⟩
          · exact .inl h1
          · exact .inr ⟨(i, e), List.mem_cons_self .., h1⟩
          · exact .inr ⟨x, List.mem_cons_of_mem _ hx, h1⟩
      have hthis := hstep (wpOps P ops Q (r.map (·.1) ++ rest)) Q hnext
      simp only [List.map_cons, List.cons_append, wpOps, ho]
      split
      · rename_i hw; rw [if_pos hw] at hthis; exact .inl hthis
      · rename_i hw; rw [if_neg hw] at hthis; exact hthis

/-- i is forced ahead of j by edges that bind always. -/
def fwd (ops : Array Oper) (i : Nat) : Nat → Nat → List Nat → List Nat
  | 0, _, acc => acc
  | n + 1, j, acc => match ops[j]? with
    | some o => if o.after.any fun e => Region.binds .any e && (e.on == i || acc.contains e.on) then fwd ops i n (j + 1) (j :: acc) else fwd ops i n (j + 1) acc
    | none => acc
def ordB (ops : Array Oper) (_ : Nat) (i j : Nat) : Bool := (fwd ops i (ops.size - i) i []).contains j

/-- All that may change places do no harm. -/
def drawOk (ops : Array Oper) : List (Nat × Eff) → Bool
  | [] => true
  | x :: r => (r.all fun y => indep ops x y || ordB ops ops.size x.1 y.1) && drawOk ops r

def Closed (ops : Array Oper) (listed : Array Bool) : Prop :=
  ∀ (j : Nat) o, ops[j]? = some o → listed.getD j false = true → ∀ e ∈ o.after, Region.binds .any e = true → listed.getD e.on false = true

theorem fwd_listed {i : Nat} : ∀ (n j : Nat) (acc : List Nat), (∀ k ∈ acc, ∀ listed : Array Bool, Closed ops listed → (∀ o, ops[k]? = some o → ∀ e ∈ o.after, Region.binds .any e = true → listed.getD e.on false = true) → listed.getD i false = true) →
    ∀ k ∈ fwd ops i n j acc, ∀ listed : Array Bool, Closed ops listed → (∀ o, ops[k]? = some o → ∀ e ∈ o.after, Region.binds .any e = true → listed.getD e.on false = true) → listed.getD i false = true
  | 0, _, _, h => h
  | n + 1, j, acc, h => by
    unfold fwd
    split
    · rename_i o ho
      split
      · rename_i hc
        refine fwd_listed n (j + 1) (j :: acc) ?_
        intro k hk
        rcases List.mem_cons.1 hk with rfl | hk
        · intro listed hcl hpre
          obtain ⟨e, he, hb⟩ := Array.any_eq_true'.1 hc
          simp only [Bool.and_eq_true, Bool.or_eq_true, beq_iff_eq] at hb
          obtain ⟨hb1, hb2⟩ := hb
          have hl := hpre o ho e he hb1
          rcases hb2 with rfl | hb2
          · exact hl
          · exact h e.on (by simpa using hb2) listed hcl (fun o' ho' e' he' hb' => hcl e.on o' ho' hl e' he' hb')
        · exact h k hk
      · exact fwd_listed n (j + 1) acc h
    · exact h
theorem ord_listed {listed : Array Bool} (hcl : Closed ops listed) (f i j : Nat) (h : ordB ops f i j = true) (hpre : ∀ o, ops[j]? = some o → ∀ e ∈ o.after, Region.binds .any e = true → listed.getD e.on false = true) : listed.getD i false = true :=
  fwd_listed _ _ [] (by simp) j (by simpa [ordB] using h) listed hcl hpre

theorem drawOk_pair : ∀ {l r : List (Nat × Eff)} {x : Nat × Eff}, drawOk ops (l ++ x :: r) = true → ∀ y ∈ l, indep ops y x = true ∨ ordB ops ops.size y.1 x.1 = true
  | [], _, _, _, y, hy => by simp at hy
  | z :: l, r, x, h, y, hy => by
    simp only [List.cons_append, drawOk, Bool.and_eq_true] at h
    rcases List.mem_cons.1 hy with rfl | hy
    · have := List.all_eq_true.1 h.1 x (by simp)
      simpa using this
    · exact drawOk_pair h.2 y hy

theorem drawOk_drop : ∀ {l r : List (Nat × Eff)} {x : Nat × Eff}, drawOk ops (l ++ x :: r) = true → drawOk ops (l ++ r) = true
  | [], r, x, h => by simp only [List.nil_append, drawOk, Bool.and_eq_true] at h; exact h.2
  | z :: l, r, x, h => by
    simp only [List.cons_append, drawOk, Bool.and_eq_true] at h ⊢
    refine ⟨?_, drawOk_drop h.2⟩
    rw [List.all_eq_true] at h ⊢
    intro y hy
    exact h.1 y (by rcases List.mem_append.1 hy with h | h <;> simp [h])

/-- A region in whatever order its edges allow. -/
theorem wpAny_runs {Q : Exit → Act → World → Prop} : ∀ (fuel : Nat) {r : List (Nat × Eff)} {σ σ' : St} {C : Cx} {G : Gh} {a : Act} {w : World} {listed : Array Bool}, Runs P cs ops p0 C.N r σ σ' → RunOk P cs ops p0 n S0 C Φ Pre r → Sim n w0 S0 C G σ a w →
    (r.map (·.1)).Nodup → (∀ x ∈ r, ¬ C.M (p0 + x.1)) → drawOk ops r = true → listed.size = ops.size → Closed ops listed → r.length ≤ fuel → (∀ i, i < ops.size → (listed.getD i false = false ↔ i ∈ r.map (·.1))) →
    (∀ x ∈ r, x.1 < ops.size) → (r ≠ [] → Region.ready .any ops listed ≠ []) →
    (∀ (listed' : Array Bool) (r' : List (Nat × Eff)), listed'.size = ops.size → Closed ops listed' → (∀ i, i < ops.size → (listed'.getD i false = false ↔ i ∈ r'.map (·.1))) → r' ≠ [] → (∀ x ∈ r', x.1 < ops.size) → Region.ready .any ops listed' ≠ []) →
    (∀ a' w' G' M', (∀ i, M' i → C.M i ∨ ∃ x ∈ r, i = p0 + x.1) → Sim n w0 S0 { C with M := M' } G' σ' a' w' → Q .normal a' w') → wpAny P .any ops Q fuel listed a w := by
  intro fuel
  induction fuel with
  | zero =>
    intro r σ σ' C G a w listed h hok hs hnd hM hdraw hsz hcl hfuel hlist hlt hready hsome hQ
    have hr : r = [] := List.eq_nil_of_length_eq_zero (by omega)
    subst hr
    cases h
    refine ⟨?_, hQ a w G C.M (fun i hi => .inl hi) hs⟩
    rw [List.eq_nil_iff_forall_not_mem]
    intro j hj
    obtain ⟨h0, o, ho, _⟩ := mem_ready.1 hj
    have hjl : j < ops.size := (Array.getElem?_eq_some_iff.1 ho).1
    have h1 : listed.getD j false = false := by
      have hj' : j < listed.size := by omega
      simp [hj'] at h0 ⊢; exact h0
    have := (hlist j hjl).1 h1
    simp at this
  | succ fuel ih =>
    intro r σ σ' C G a w listed h hok hs hnd hM hdraw hsz hcl hfuel hlist hlt hready hsome hQ
    refine ⟨fun h0 => ?_, fun i hi => ?_⟩
    · by_cases hr : r = []
      · subst hr; cases h; exact hQ a w G C.M (fun i hi => .inl hi) hs
      · exact absurd h0 (hready hr)
    · obtain ⟨h0, o, ho, hpre⟩ := mem_ready.1 hi
      have hil : i < ops.size := (Array.getElem?_eq_some_iff.1 ho).1
      have h1 : listed.getD i false = false := by
        have hj' : i < listed.size := by omega
        simp [hj'] at h0 ⊢; exact h0
      have hmem := (hlist i hil).1 h1
      obtain ⟨x, hx, hxi⟩ := List.mem_map.1 hmem
      obtain ⟨l, r2, hr⟩ := List.append_of_mem hx
      subst hr
      have hind : ∀ y ∈ l, indep ops y x = true := by
        intro y hy
        rcases drawOk_pair hdraw y hy with h | h
        · exact h
        · exfalso
          rw [hxi] at h
          have hyl := ord_listed hcl _ _ _ h (fun o' ho' => by rw [ho] at ho'; injection ho' with ho'; subst ho'; exact hpre)
          have hy1 := hlt y (by simp [hy])
          have := (hlist y.1 hy1).2 (List.mem_map.2 ⟨y, by simp [hy], rfl⟩)
          rw [hyl] at this; cases this
      have hpull := Runs.pull hind h
      obtain ⟨xi, e⟩ := x
      simp only at hxi
      subst hxi
      have hsub : ∀ y ∈ l ++ r2, y ∈ l ++ (xi, e) :: r2 := by
        intro y hy; rcases List.mem_append.1 hy with h | h <;> simp [h]
      have hnd' : xi ∉ (l ++ r2).map (·.1) ∧ ((l ++ r2).map (·.1)).Nodup := by
        have : (((xi, e) :: (l ++ r2)).map (·.1)).Nodup := by
          refine (List.Perm.nodup_iff ?_).1 hnd
          exact (List.perm_middle).map _
        simpa using this
      cases hpull with
      | cons ho' he hlt' hr' =>
        rename_i o'
        rw [ho] at ho'; injection ho' with ho'; subst ho'
        have hp : ¬ C.M (p0 + xi) := hM (xi, e) (by simp)
        have hok' : RunOk P cs ops p0 n S0 C Φ Pre (l ++ r2) := ⟨hok.con, fun y hy => hok.items y (hsub y hy), fun y hy => hok.pos y (hsub y hy), hok.dst, hok.fr⟩
        have hstep := effOpD_ok hs he.choose_spec hp (hok.pos (xi, e) (by simp)) hok.con hlt' (hok.items (xi, e) (by simp)) (fun d hd => hok.dst xi o d ho hd) hok.fr
        have hsz' : (listed.setIfInBounds xi true).size = ops.size := by simp [hsz]
        have hget : ∀ j, j < ops.size → (listed.setIfInBounds xi true).getD j false = (if j = xi then true else listed.getD j false) := by
          intro j hj
          by_cases hjx : j = xi
          · subst hjx
            have : j < listed.size := by omega
            simp [this]
          · rw [if_neg hjx]; exact getD_set_ne false (Ne.symm hjx)
        have hcl' : Closed ops (listed.setIfInBounds xi true) := by
          intro j o' hoj hj e' he' hb'
          have hjl : j < ops.size := (Array.getElem?_eq_some_iff.1 hoj).1
          rw [hget j hjl] at hj
          by_cases hjx : j = xi
          · subst hjx
            rw [ho] at hoj; injection hoj with hoj; subst hoj
            exact getD_set_true (hpre e' he' hb')
          · rw [if_neg hjx] at hj
            exact getD_set_true (hcl j o' hoj hj e' he' hb')
        have hlist' : ∀ j, j < ops.size → ((listed.setIfInBounds xi true).getD j false = false ↔ j ∈ (l ++ r2).map (·.1)) := by
          intro j hj
          rw [hget j hj]
          by_cases hjx : j = xi
          · subst hjx
            simp only [if_true]
            exact ⟨fun h => (by cases h), fun h => absurd h hnd'.1⟩
          · rw [if_neg hjx, hlist j hj]
            simp [hjx]
        have hlt2 : ∀ y ∈ l ++ r2, y.1 < ops.size := fun y hy => hlt y (hsub y hy)
        have hnext : ∀ a' w' G', Sim n w0 S0 (C.add (p0 + xi)) G' (e.app σ) a' w' → wpAny P .any ops Q fuel (listed.setIfInBounds xi true) a' w' := by
          intro a' w' G' hs'
          refine ih (C := C.add (p0 + xi)) hr' hok'.add hs' hnd'.2 ?_ (drawOk_drop hdraw) hsz' hcl' (by simp at hfuel ⊢; omega) hlist' hlt2 (fun hne => hsome _ _ hsz' hcl' hlist' hne hlt2) hsome ?_
          · rintro y hy (hm | hm)
            · exact hM y (hsub y hy) hm
            · have : y.1 = xi := by omega
              exact hnd'.1 (List.mem_map.2 ⟨y, hy, this⟩)
          · intro a'' w'' G'' M' hM' hs''
            refine hQ a'' w'' G'' M' (fun j hj => ?_) hs''
            rcases hM' j hj with (h1 | h1) | ⟨y, hy, h1⟩
            · exact .inl h1
            · exact .inr ⟨(xi, e), by simp, h1⟩
            · exact .inr ⟨y, hsub y hy, h1⟩
        have hthis := hstep (wpAny P .any ops Q fuel (listed.setIfInBounds xi true)) Q hnext
        unfold wpOp
        simp only [ho]
        split
        · rename_i hw; rw [if_pos hw] at hthis; exact .inl hthis
        · rename_i hw; rw [if_neg hw] at hthis; exact hthis

/-- Edges that bind always lead back. -/
def backB (ops : Array Oper) : Bool := (List.range ops.size).all fun i => match ops[i]? with
  | some o => o.after.all fun e => !Region.binds .any e || decide (e.on < i)
  | none => true

theorem back_ready (hb : backB ops = true) {listed : Array Bool} (hsz : listed.size = ops.size) {r : List Nat} (hlist : ∀ i, i < ops.size → (listed.getD i false = false ↔ i ∈ r)) (hr : r ≠ []) (hlt : ∀ x ∈ r, x < ops.size) : Region.ready .any ops listed ≠ [] := by
  -- the least that is not listed is ready
  obtain ⟨m, hm, hmin⟩ : ∃ m, m ∈ r ∧ ∀ j, j < m → j ∉ r := by
    cases r with
    | nil => exact absurd rfl hr
    | cons x r =>
      have : ∃ m, m ∈ (x :: r) := ⟨x, by simp⟩
      have key : ∀ k, (∃ m ∈ (x :: r), m ≤ k) → ∃ m, m ∈ (x :: r) ∧ ∀ j, j < m → j ∉ (x :: r) := by
        intro k
        induction k with
        | zero => rintro ⟨m, hm, hk⟩; exact ⟨m, hm, fun j hj => by omega⟩
        | succ k ih =>
          rintro ⟨m, hm, hk⟩
          by_cases h : ∃ m ∈ (x :: r), m ≤ k
          · exact ih h
          · refine ⟨m, hm, fun j hj hjr => h ⟨j, hjr, by omega⟩⟩
      exact key x ⟨x, by simp, Nat.le_refl _⟩
  have hml := hlt m hm
  have : m ∈ Region.ready .any ops listed := by
    rw [mem_ready]
    have h1 := (hlist m hml).2 hm
    have hml' : m < listed.size := by omega
    refine ⟨by simp [hml'] at h1 ⊢; exact h1, ops[m], by simp [hml], fun e he hbd => ?_⟩
    have := List.all_eq_true.1 hb m (List.mem_range.2 hml)
    simp only [Array.getElem?_eq_getElem hml] at this
    have := (Array.all_eq_true_iff_forall_mem.1 this) e he
    simp only [hbd, Bool.not_true, Bool.false_or, decide_eq_true_eq] at this
    have h2 : listed.getD e.on false ≠ false := fun h => hmin e.on this ((hlist e.on (by omega)).1 h)
    simpa using h2
  intro h
  rw [h] at this; cases this

end
end Go.Eng
/- A loop's head: what may have turned is a new variable; that a state fits a head. -/
namespace Go.Eng
open Go Go.RowKit

/-- An owned slice: its element's type; whether it is of its own kind. -/
abbrev OwnK := TypeId × Bool
inductive Slot where
  | tmp (t : Nat)
  | cell (id i : Nat)
  deriving DecidableEq

/-- What may turn in a loop's rounds: the owned slices among the temporaries and their elements' types; the variables (by the temporaries that hold their addresses) with their owned cells; what need not be kept. -/
structure Ann where
  own : List (Nat × TypeId) := []
  boxes : List (Nat × List (Nat × TypeId)) := []
  drop : List Nat := []
/-- Slices that are nil ahead of a loop are of their own kind: told by a number among what need not be kept. -/
def Ann.ex (a : Ann) : Bool := a.drop.contains 1000002

structure Head where
  v0 : Nat
  slots : List (Slot × Ty × Option OwnK)
  st : St
  keep : List Tag

def Head.size (h : Head) : Nat := h.slots.length
/-- A map's slot: told by a type that nothing else has. -/
def mapTy : Ty → Option (Ty × TypeId)
  | .tup (.fn T kt) => some (kt, T)
  | _ => none
def slotNew (v : Nat) (ty : Ty) : Option OwnK → SC
  | none => match mapTy ty with
    | some (kt, T) => .mcon (.var v) kt T
    | none => .dat (.var v) ty
  | some (_, false) => .own (v, 0) (.var v) ty
  | some (_, true) => .xo (v, 1000) ty
def slotTag (v : Nat) (T : OwnK) : Tag := (v, if T.2 then 1000 else 0)
theorem slotTag_ex (v : Nat) (T : OwnK) : (slotTag v T).ex = T.2 := by obtain ⟨T, _ | _⟩ := T <;> rfl
def slotTy (ty : Ty) : Option OwnK → Ty
  | none => match mapTy ty with
    | some (kt, _) => .list kt
    | none => ty
  | some _ => .list ty

def slotOf (σ : St) : Slot → Option SC
  | .tmp t => match σ.tm t with
    | some ([], .one c) => some c
    | _ => none
  | .cell id i => match σ.hp id with
    | some (_, cs) => cs[i]?
    | none => none

/-- What a slot holds, as an expression; where it is owned: which. -/
def slotVal (σ : St) (x : Slot × Ty × Option OwnK) : Option (E × Option Tag) :=
  match slotOf σ x.1 with
  | some c =>
    match x.2.2 with
    | none => match mapTy x.2.1 with
      | some (kt, T) => match c with
        | .mcon e kt' T' => if kt' = kt ∧ T' = T then some (e, none) else none
        | _ => none
      | none => match asData c with
        | some (e, t) => if t = x.2.1 then some (e, none) else none
        | none => none
    | some T => match c with
      | .nils t => if t = x.2.1 then some (.nil, none) else none
      | .own g _ t => match σ.live g with
        | some (e, T', t') => if t = x.2.1 ∧ T' = T.1 ∧ t' = x.2.1 ∧ T.2 = false ∧ g.ex = false then some (e, some g) else none
        | none => none
      | .xo g t => match σ.live g with
        | some (e, T', t') => if t = x.2.1 ∧ T' = T.1 ∧ t' = x.2.1 ∧ T.2 = true ∧ g.ex = true then some (e, some g) else none
        | none => none
      | _ => none
  | none => none

def slotVals (σ : St) : List (Slot × Ty × Option OwnK) → Option (List (E × Option Tag))
  | [] => some []
  | x :: r => match slotVal σ x, slotVals σ r with
    | some y, some ys => some (y :: ys)
    | _, _ => none

def slotIdx (s : Slot) : List (Slot × Ty × Option OwnK) → Nat → Option (Nat × Ty × Option OwnK)
  | [], _ => none
  | x :: r, j => if x.1 = s then some (j, x.2) else slotIdx s r (j + 1)

/-- Ids of boxes and tags below a bound. -/
def SC.ids (n : Nat) : SC → Bool
  | .own g _ _ => g.1 < n
  | .adr id _ => id < n
  | .xo g _ => g.1 < n
  | .xadr g _ _ _ => g.1 < n
  | .mref id => id < n
  | _ => true
def SV.ids (n : Nat) : SV → Bool
  | .one c => c.ids n
  | .agg l => l.all (SC.ids n)
  | .tup l => l.all fun x => x.2.all (SC.ids n)

def fitTm (n : Nat) (h : Head) (σ : St) : Bool := (List.range n).all fun t =>
  match h.st.tm t with
  | none => true
  | some (c, s) => match slotIdx (.tmp t) h.slots 0 with
    | some (j, ty, T) => decide (c = [] ∧ s = .one (slotNew (h.v0 + j) ty T))
    | none => decide (σ.tm t = some (c, s)) && s.lt h.v0 && s.ids h.v0 && c.all fun x => x.1.lt h.v0

def fitCells (h : Head) (id : Nat) : Nat → List SC → List SC → Bool
  | _, [], [] => true
  | i, c :: r, c' :: r' => (match slotIdx (.cell id i) h.slots 0 with
    | some (j, ty, T) => decide (c = slotNew (h.v0 + j) ty T)
    | none => decide (c' = c) && c.lt h.v0 && c.ids h.v0 && c.scalar) && fitCells h id (i + 1) r r'
  | _, _, _ => false

def fitHp (h : Head) (σ : St) : Bool := (List.range h.v0).all fun id =>
  match h.st.hp id with
  | none => true
  | some (ro, cs) => match σ.hp id with
    | some (ro', cs') => ro == ro' && fitCells h id 0 cs cs'
    | none => false

def fitLive (h : Head) (σ : St) (tags : List (Option Tag)) : Bool := h.keep.all fun g =>
  match h.st.live g with
  | none => true
  | some x => decide (σ.live g = some x) && decide (g.1 < h.v0) && x.1.lt h.v0 && !tags.contains (some g)

/-- The state fits the head: with which values. -/
def fitSt (n : Nat) (h : Head) (σ : St) : Option (List E) :=
  match slotVals σ h.slots with
  | some vs =>
    let tags := vs.map (·.2)
    if fitTm n h σ && fitHp h σ && fitLive h σ tags && nodupTags tags && (h.slots.all fun x => (slotTy x.2.1 x.2.2).scalar && (x.2.2.isNone || decide (0 < x.2.1.cells.length))) then some (vs.map (·.1)) else none
  | none => none

/-- The head's own form: nothing beyond its bounds. -/
structure HeadOk (n : Nat) (h : Head) : Prop where
  tm : ∀ t, n ≤ t → h.st.tm t = none
  hp : ∀ id, h.v0 ≤ id → h.st.hp id = none
  live : ∀ g x, h.st.live g = some x → g ∈ h.keep ∨ ∃ j ty T, h.slots[j]? = some (ty, T) ∧ ∃ T', T.2 = some T' ∧ g = slotTag (h.v0 + j) T' ∧ x = (.var (h.v0 + j), T'.1, T.1)

def assigned : Code → List Nat
  | .region _ ops _ => ops.toList.filterMap (·.dst)
  | .seq a b => assigned a ++ assigned b
  | .cond _ a b => assigned a ++ assigned b
  | .block _ c | .loop c | .scope c => assigned c
  | _ => []

def dedup : List Nat → List Nat
  | [] => []
  | x :: r => if r.contains x then dedup r else x :: dedup r

def cellSlots (ex : Bool) (id : Nat) (owns : List (Nat × TypeId)) : Nat → List SC → List (Slot × Ty × Option OwnK)
  | _, [] => []
  | i, c :: r =>
    (match lk owns i, c with
      | some T, .nils t => [(.cell id i, t, some (T, ex))]
      | some T, .own _ _ t => [(.cell id i, t, some (T, false))]
      | some T, .xo _ t => [(.cell id i, t, some (T, true))]
      | _, .mcon _ kt T => [(.cell id i, .tup (.fn T kt), none)]
      | _, c => match asData c with
        | some (_, t) => [(.cell id i, t, none)]
        | none => []) ++ cellSlots ex id owns (i + 1) r

def headCells (slots : List (Slot × Ty × Option OwnK)) (v0 id : Nat) : Nat → List SC → List SC
  | _, [] => []
  | i, c :: r => (match slotIdx (.cell id i) slots 0 with
    | some (j, ty, T) => slotNew (v0 + j) ty T
    | none => c) :: headCells slots v0 id (i + 1) r

def scTags : SC → List Tag
  | .own g _ _ => [g]
  | .xo g _ => [g]
  | _ => []
def svTags : SV → List Tag
  | .one c => scTags c
  | .agg l => l.flatMap scTags
  | .tup l => l.flatMap fun x => x.2.flatMap scTags

def newLive (v0 : Nat) : Nat → List (Slot × Ty × Option OwnK) → List (Tag × (E × TypeId × Ty))
  | _, [] => []
  | j, (_, ty, T) :: r => (match T with
    | some T => [(slotTag (v0 + j) T, (E.var (v0 + j), T.1, ty))]
    | none => []) ++ newLive v0 (j + 1) r

/-- A variable's slots; where it holds a map: the map's, too. -/
def boxSlots (ex : Bool) (σ : St) (owns : List (Nat × TypeId)) (id : Nat) : List (Slot × Ty × Option OwnK) :=
  match σ.hp id with
  | some (false, cs) => cellSlots ex id owns 0 cs ++ cs.flatMap fun c => match c with
    | .mref m => (match σ.hp m with | some (false, ms) => cellSlots ex m [] 0 ms | _ => [])
    | _ => []
  | _ => []
def mkHead (n : Nat) (ann : Ann) (A0 : List Nat) (σ : St) (v0 : Nat) : Head :=
  let A := dedup A0
  let ts := A.filterMap fun t =>
    if ann.drop.contains t then none else
    match σ.tm t with
    | some ([], .one c) => match lk ann.own t, c with
      | some T, .nils ty => some (Slot.tmp t, ty, some (T, ann.ex))
      | some T, .own _ _ ty => some (Slot.tmp t, ty, some (T, false))
      | some T, .xo _ ty => some (Slot.tmp t, ty, some (T, true))
      | _, c => match asData c with
        | some (_, ty) => some (Slot.tmp t, ty, none)
        | none => none
    | _ => none
  let bs := ann.boxes.flatMap fun x =>
    match σ.tm x.1 with
    | some ([], .one (.adr id 0)) => boxSlots ann.ex σ x.2 id
    | some ([], .one (.mref id)) => boxSlots ann.ex σ x.2 id
    | _ => []
  let slots := ts ++ bs
  let gone := (slots.filterMap fun x => slotVal σ x).filterMap (·.2)
  let keep := (((List.range n).flatMap fun t => match σ.tm t with | some (_, s) => svTags s | none => []) ++
    ((List.range v0).flatMap fun id => match σ.hp id with | some (_, cs) => cs.flatMap scTags | none => [])).filter fun g => !gone.contains g
  let nl := newLive v0 0 slots
  { v0, slots, keep,
    st := {
      tm := fun t => if t < n then (if A.contains t then (match slotIdx (.tmp t) slots 0 with | some (j, ty, T) => some ([], .one (slotNew (v0 + j) ty T)) | none => none) else σ.tm t) else none
      hp := fun id => if id < v0 then (match σ.hp id with | some (ro, cs) => some (ro, headCells slots v0 id 0 cs) | none => none) else none
      live := fun g => match lk nl g with | some x => some x | none => if keep.contains g then σ.live g else none } }

theorem newLive_get : ∀ {l : List (Slot × Ty × Option OwnK)} {v0 k : Nat} {g : Tag} {x : E × TypeId × Ty}, lk (newLive v0 k l) g = some x → ∃ j ty T, l[j]? = some (ty, T) ∧ ∃ T', T.2 = some T' ∧ g = slotTag (v0 + (k + j)) T' ∧ x = (.var (v0 + (k + j)), T'.1, T.1)
  | [], _, _, _, _, h => by cases h
  | (s, ty, T) :: r, v0, k, g, x, h => by
    have step : ∀ {y}, lk (newLive v0 (k + 1) r) g = some y → ∃ j ty' T', ((s, ty, T) :: r)[j]? = some (ty', T') ∧ ∃ T'', T'.2 = some T'' ∧ g = slotTag (v0 + (k + j)) T'' ∧ y = (.var (v0 + (k + j)), T''.1, T'.1) := by
      intro y hy
      obtain ⟨j, ty', T', h1, h3⟩ := newLive_get hy
      refine ⟨j + 1, ty', T', by simpa using h1, ?_⟩
      rw [show k + (j + 1) = k + 1 + j by omega]; exact h3
    cases T with
    | none => simp only [newLive, List.nil_append] at h; exact step h
    | some T0 =>
      simp only [newLive, List.cons_append, List.nil_append, lk] at h
      split at h
      · rename_i hg
        injection h with h
        exact ⟨0, s, (ty, some T0), rfl, T0, rfl, hg, h.symm⟩
      · exact step h

theorem mkHead_ok (n : Nat) (ann : Ann) (A : List Nat) (σ : St) (v0 : Nat) : HeadOk n (mkHead n ann A σ v0) where
  tm t ht := by simp only [mkHead]; rw [if_neg (by omega)]
  hp id hid := by
    have h : v0 ≤ id := hid
    simp only [mkHead]; rw [if_neg (by omega)]
  live g x hx := by
    simp only [mkHead] at hx
    split at hx
    · rename_i y hy
      injection hx with hx; subst hx
      obtain ⟨j, ty, T, h1, h3⟩ := newLive_get hy
      rw [Nat.zero_add] at h3
      exact .inr ⟨j, ty, T, h1, h3⟩
    · split at hx
      · rename_i hk
        exact .inl (by simpa [mkHead] using hk)
      · cases hx

def updV (ρ : Nat → D) (v0 : Nat) (xs : List D) : Nat → D := fun i => if v0 ≤ i ∧ i < v0 + xs.length then xs.getD (i - v0) .top else ρ i
theorem updV_lt {ρ : Nat → D} {v0 : Nat} {xs : List D} {i : Nat} (h : i < v0) : updV ρ v0 xs i = ρ i := by unfold updV; rw [if_neg (by omega)]
theorem updV_at {ρ : Nat → D} {v0 : Nat} {xs : List D} {j : Nat} {d : D} (h : xs[j]? = some d) : updV ρ v0 xs (v0 + j) = d := by
  have hl : j < xs.length := (List.getElem?_eq_some_iff.1 h).1
  unfold updV
  rw [if_pos ⟨by omega, by omega⟩, show v0 + j - v0 = j by omega]
  exact toL_getD h

theorem slotIdx_get {s : Slot} : ∀ {l : List (Slot × Ty × Option OwnK)} {k j : Nat} {y : Ty × Option OwnK}, slotIdx s l k = some (j, y) → k ≤ j ∧ l[j - k]? = some (s, y)
  | [], _, _, _, h => by cases h
  | x :: r, k, j, y, h => by
    simp only [slotIdx] at h
    split at h
    · rename_i hx
      injection h with h; simp only [Prod.mk.injEq] at h; obtain ⟨rfl, rfl⟩ := h
      refine ⟨Nat.le_refl _, ?_⟩
      rw [Nat.sub_self, ← hx]; rfl
    · obtain ⟨h1, h2⟩ := slotIdx_get h
      refine ⟨by omega, ?_⟩
      rw [show j - k = (j - (k + 1)) + 1 by omega]
      simpa using h2

theorem slotVals_get {σ : St} : ∀ {l : List (Slot × Ty × Option OwnK)} {vs : List (E × Option Tag)}, slotVals σ l = some vs → vs.length = l.length ∧ ∀ (j : Nat) x y, l[j]? = some x → vs[j]? = some y → slotVal σ x = some y
  | [], vs, h => by simp only [slotVals, Option.some.injEq] at h; subst h; exact ⟨rfl, by intro j x y hj; simp at hj⟩
  | x :: r, vs, h => by
    simp only [slotVals] at h
    split at h
    · rename_i y ys h1 h2
      injection h with h; subst h
      obtain ⟨k1, k2⟩ := slotVals_get h2
      refine ⟨by simp [k1], fun j x' y' hx hy => ?_⟩
      cases j with
      | zero => simp at hx hy; subst hx; subst hy; exact h1
      | succ j => exact k2 j x' y' (by simpa using hx) (by simpa using hy)
    · cases h

section
variable {C : Cx} {G : Gh} {w w0 : World} {S0 : Base} {σ : St} {a : Act} {n : Nat}

theorem RSC.shrink {c : SC} {v : Value} {v0 : Nat} {C' : Cx} {G' : Gh} (h : RSC C w G c v) (hlt : c.lt v0 = true) (hid : c.ids v0 = true) (hρ : ∀ i, i < v0 → C'.ρ i = C.ρ i) (hN : v0 ≤ C'.N) (hM : ∀ i, i < v0 → C'.M i)
    (hS : G'.S = G.S) (hβ : ∀ i, i < v0 → G'.β i = G.β i) (hτ : ∀ g : Tag, g.1 < v0 → G'.τ g = G.τ g) : RSC C' w G' c v := by
  have dn : ∀ {e : E}, e.lt v0 = true → den C'.ρ e = den C.ρ e := fun he => den_agree hρ he
  have up : ∀ {e : E}, e.lt v0 = true → e.lt C'.N = true := by
    intro e
    induction e with
    | var i => intro he; simp only [E.lt, decide_eq_true_eq] at he ⊢; omega
    | kint | kbool | kstr | nilp | nil => intro _; rfl
    | cons a b iha ihb => intro he; simp only [E.lt, Bool.and_eq_true] at he ⊢; exact ⟨iha he.1, ihb he.2⟩
    | un o e ih => intro he; exact ih he
    | bin o a b iha ihb => intro he; simp only [E.lt, Bool.and_eq_true] at he ⊢; exact ⟨iha he.1, ihb he.2⟩
    | ite c a b ihc iha ihb => intro he; simp only [E.lt, Bool.and_eq_true] at he ⊢; exact ⟨⟨ihc he.1.1, iha he.1.2⟩, ihb he.2⟩
  cases c with
  | dat e t => exact ⟨up hlt, by rw [dn hlt, hS]; exact h.2.1, by rw [dn hlt]; exact h.2.2⟩
  | nils t => exact h
  | own g e t =>
    have hg : g.1 < v0 := by simpa [SC.ids] using hid
    obtain ⟨_, _, h3, h4, h5⟩ := h
    exact ⟨hM _ hg, up hlt, by rw [dn hlt, hS]; exact h3, by rw [dn hlt]; exact h4, by rw [hτ g hg]; exact h5⟩
  | clip e t =>
    obtain ⟨_, h3, h4, b, h5⟩ := h
    exact ⟨up hlt, by rw [dn hlt, hS]; exact h3, by rw [dn hlt]; exact h4, b, by rw [dn hlt]; exact h5⟩
  | adr id off =>
    have hg : id < v0 := by simpa [SC.ids] using hid
    exact ⟨hM _ hg, by rw [hβ id hg]; exact h.2⟩
  | eadr l i t off =>
    simp only [SC.lt, Bool.and_eq_true] at hlt
    obtain ⟨_, _, b, o, u, hv, hh, hc⟩ := h
    have e1 : den C'.ρ (.bin .idx l i) = den C.ρ (.bin .idx l i) := dn (by simp [E.lt, hlt])
    exact ⟨up hlt.1, up hlt.2, b, o, u, hv, by rw [e1]; exact hh, by rw [e1, hS]; exact hc⟩
  | padr e fs off =>
    obtain ⟨_, b, l, u, hd, hh, hv, hc⟩ := h
    exact ⟨up hlt, b, l, u, by rw [dn hlt]; exact hd, hh, hv, by rw [hS]; exact hc⟩
  | xo g t =>
    have hg : g.1 < v0 := by simpa [SC.ids] using hid
    exact ⟨hM _ hg, by rw [hτ g hg]; exact h.2.1, h.2.2⟩
  | xadr g i t off =>
    have hg : g.1 < v0 := by simpa [SC.ids] using hid
    obtain ⟨_, _, b, cap, n, h1, h2, h3, h4⟩ := h
    have hlt' : i.lt v0 = true := hlt
    exact ⟨hM _ hg, up hlt', b, cap, n, by rw [hτ g hg]; exact h1, by rw [dn hlt']; exact h2, by rw [dn hlt']; exact h3, by rw [dn hlt']; exact h4⟩
  | mref id =>
    have hg : id < v0 := by simpa [SC.ids] using hid
    exact ⟨hM _ hg, by rw [hβ id hg]; exact h.2⟩
  | mnil => exact h
  | mcon e kt T => exact h.elim

theorem SV.cases_shrink {s : SV} {v : Value} {v0 : Nat} {C' : Cx} {G' : Gh} (h : RSV C w G s v) (hlt : s.lt v0 = true) (hid : s.ids v0 = true)
    (hsc : ∀ {c : SC} {u : Value}, RSC C w G c u → c.lt v0 = true → c.ids v0 = true → RSC C' w G' c u) : RSV C' w G' s v := by
  cases s with
  | one c => exact hsc h hlt hid
  | agg l =>
    obtain ⟨vs, h1, h2, h3⟩ := h
    simp only [SV.lt, SV.ids, List.all_eq_true] at hlt hid
    exact ⟨vs, h1, h2, fun i c u hc hu => hsc (h3 i c u hc hu) (hlt c (List.mem_of_getElem? hc)) (hid c (List.mem_of_getElem? hc))⟩
  | tup l =>
    obtain ⟨vs, h1, h2, h3⟩ := h
    simp only [SV.lt, SV.ids, List.all_eq_true] at hlt hid
    refine ⟨vs, h1, h2, fun i x u hx hu => ?_⟩
    have hm := List.mem_of_getElem? hx
    have h4 := h3 i x u hx hu
    unfold RComp at h4 ⊢
    split
    · rename_i hx1
      rw [if_pos hx1] at h4
      obtain ⟨us, h5, h6, h7⟩ := h4
      exact ⟨us, h5, h6, fun i c u hc hu => hsc (h7 i c u hc hu) (hlt x hm c (List.mem_of_getElem? hc)) (hid x hm c (List.mem_of_getElem? hc))⟩
    · rename_i hx1
      rw [if_neg hx1] at h4
      obtain ⟨c, h5, h6⟩ := h4
      exact ⟨c, h5, hsc h6 (hlt x hm c (by rw [h5]; simp)) (hid x hm c (by rw [h5]; simp))⟩

theorem fitCells_get {h : Head} {id : Nat} : ∀ {k : Nat} {l l' : List SC}, fitCells h id k l l' = true → l.length = l'.length ∧ ∀ (i : Nat) c c', l[i]? = some c → l'[i]? = some c' →
    (∃ j ty T, slotIdx (.cell id (k + i)) h.slots 0 = some (j, ty, T) ∧ c = slotNew (h.v0 + j) ty T) ∨ (c' = c ∧ c.lt h.v0 = true ∧ c.ids h.v0 = true ∧ c.scalar = true)
  | k, [], [], _ => ⟨rfl, by intro i c c' hi; simp at hi⟩
  | k, c :: r, c' :: r', hf => by
    simp only [fitCells, Bool.and_eq_true] at hf
    obtain ⟨h1, h2⟩ := hf
    obtain ⟨k1, k2⟩ := fitCells_get h2
    refine ⟨by simp [k1], fun i x x' hx hx' => ?_⟩
    cases i with
    | zero =>
      simp at hx hx'; subst hx; subst hx'
      split at h1
      · rename_i j ty T hs
        exact .inl ⟨j, ty, T, hs, by simpa using h1⟩
      · simp only [Bool.and_eq_true, decide_eq_true_eq] at h1
        exact .inr ⟨h1.1.1.1, h1.1.1.2, h1.1.2, h1.2⟩
    | succ i =>
      have := k2 i x x' (by simpa using hx) (by simpa using hx')
      rw [show k + (i + 1) = k + 1 + i by omega]; exact this
  | _, [], _ :: _, h => by cases h
  | _, _ :: _, [], h => by cases h

/-- What the call's own boxes and slices are. -/
def muOf (G : Gh) (σ : St) (b : Nat) : Prop := (∃ id y, σ.hp id = some y ∧ b = G.β id) ∨ ∃ g y, σ.live g = some y ∧ (G.τ g).ownBlock = some b

/-- A state that fits a head stands at that head. -/
theorem fitSt_okX {h : Head} {es : List E} {ρ0 : Nat → D} (hs : Sim n w0 S0 C G σ a w) (hok : HeadOk n h) (hfit : fitSt n h σ = some es) (hρ0 : ∀ i, i < h.v0 → ρ0 i = C.ρ i) (hpin : ∀ i b, S0.pin i = some b → i < h.v0) :
    es.length = h.size ∧ (∀ (j : Nat) x e, h.slots[j]? = some x → es[j]? = some e → Has (slotTy x.2.1 x.2.2) (den C.ρ e)) ∧
    ∃ G', (G'.S = G.S ∧ G'.β = G.β ∧ ∀ b, muOf G' h.st b → muOf G σ b) ∧ Sim n w0 S0 ⟨updV ρ0 h.v0 (es.map (den C.ρ)), h.v0 + h.size, fun i => i < h.v0 + h.size⟩ G' h.st a w := by
  unfold fitSt at hfit
  split at hfit
  · rename_i vs hvs
    simp only at hfit
    split at hfit
    · rename_i hc
      injection hfit with hfit
      simp only [Bool.and_eq_true] at hc
      obtain ⟨⟨⟨⟨htm, hhp⟩, hlv⟩, hnd⟩, hsl⟩ := hc
      obtain ⟨hvl, hvg⟩ := slotVals_get hvs
      have hesl : es.length = h.size := by rw [← hfit, List.length_map, hvl]; rfl
      have hesg : ∀ (j : Nat) x, vs[j]? = some x → es[j]? = some x.1 := by intro j x hx; rw [← hfit, List.getElem?_map, hx]; rfl
      let ρ' := updV ρ0 h.v0 (es.map (den C.ρ))
      let C' : Cx := ⟨ρ', h.v0 + h.size, fun i => i < h.v0 + h.size⟩
      let τ' : Tag → Value := fun g => if h.v0 ≤ g.1 then (match vs[g.1 - h.v0]? with | some (_, some g') => G.τ g' | _ => .slice none 0 0) else G.τ g
      let G' : Gh := ⟨G.S, G.β, τ'⟩
      have hρ : ∀ i, i < h.v0 → C'.ρ i = C.ρ i := fun i hi => (updV_lt hi).trans (hρ0 i hi)
      have hτ : ∀ g : Tag, g.1 < h.v0 → G'.τ g = G.τ g := fun g hg => if_neg (by omega)
      have hτn : ∀ (j : Nat) x, vs[j]? = some x → ∀ q : Nat, G'.τ (h.v0 + j, q) = (match x.2 with | some g' => G.τ g' | none => .slice none 0 0) := by
        intro j x hx q
        show (if h.v0 ≤ h.v0 + j then _ else _) = _
        rw [if_pos (by omega)]
        simp only [Nat.add_sub_cancel_left, hx]
        obtain ⟨e, _ | g'⟩ := x <;> rfl
      have shrink : ∀ {c : SC} {u : Value}, RSC C w G c u → c.lt h.v0 = true → c.ids h.v0 = true → RSC C' w G' c u := fun h1 h2 h3 => h1.shrink h2 h3 hρ (Nat.le_add_right _ _) (fun i hi => Nat.lt_of_lt_of_le hi (Nat.le_add_right _ _)) rfl (fun _ _ => rfl) hτ
      have hden : ∀ (j : Nat) x, vs[j]? = some x → den C'.ρ (.var (h.v0 + j)) = den C.ρ x.1 := by
        intro j x hx
        show updV ρ0 h.v0 _ _ = _
        exact updV_at (by rw [List.getElem?_map, hesg j x hx]; rfl)
      have hjlt : ∀ {j : Nat} {x}, h.slots[j]? = some x → h.v0 + j < h.v0 + h.size := by
        intro j x hx; have := (List.getElem?_eq_some_iff.1 hx).1; unfold Head.size; omega
      have vget : ∀ {j : Nat} {x}, h.slots[j]? = some x → ∃ y, vs[j]? = some y ∧ slotVal σ x = some y := by
        intro j x hx
        have hj : j < vs.length := by rw [hvl]; exact (List.getElem?_eq_some_iff.1 hx).1
        exact ⟨vs[j], List.getElem?_eq_getElem hj, hvg j x _ hx (List.getElem?_eq_getElem hj)⟩
      -- what a slot holds, at the head
      have slot : ∀ {j : Nat} {s : Slot} {ty : Ty} {T : Option OwnK} {c : SC} {u : Value}, h.slots[j]? = some (s, ty, T) → slotOf σ s = some c → RSC C w G c u → RSC C' w G' (slotNew (h.v0 + j) ty T) u ∧
          ∀ x, vs[j]? = some x → Has (slotTy ty T) (den C.ρ x.1) := by
        intro j s ty T c u hj hsc hr
        obtain ⟨y, hy, hyv⟩ := vget hj
        have hd := hden j y hy
        have hlt := hjlt hj
        unfold slotVal at hyv
        simp only [hsc] at hyv
        cases T with
        | none =>
          simp only at hyv
          split at hyv
          · split at hyv
            · exact hr.elim
            · cases hyv
          rename_i hmt
          split at hyv
          · rename_i e t hdat
            split at hyv
            · rename_i htt
              injection hyv with hyv; subst hyv; subst htt
              obtain ⟨q1, q2, q3⟩ := asData_ok hdat hr
              simp only [slotNew, slotTy, hmt]
              refine ⟨⟨by simp only [E.lt, decide_eq_true_eq]; exact hlt, by rw [hd]; exact q2, by rw [hd]; exact q3⟩, fun x hx => ?_⟩
              rw [hy] at hx; injection hx with hx; subst hx; exact q3
            · cases hyv
          · cases hyv
        | some T0 =>
          simp only at hyv
          have hpos : 0 < ty.cells.length := by
            have := List.all_eq_true.1 hsl _ (List.mem_of_getElem? hj)
            simp at this; exact this.2
          obtain ⟨T0, x0⟩ := T0
          split at hyv
          · rename_i t
            split at hyv
            · rename_i htt
              injection hyv with hyv; subst hyv
              have h0 : Has (.list ty) (.list []) := has_list.2 ⟨[], rfl, lenOk_zero _, by simp⟩
              have hu : u = .slice none 0 0 := hr
              refine ⟨?_, fun x hx => ?_⟩
              · cases x0 with
                | false =>
                  refine ⟨hlt, by simp only [E.lt, decide_eq_true_eq]; exact hlt, ?_, by rw [hd]; exact h0, by rw [hτn j _ hy]; exact hu⟩
                  rw [hd, hu]; exact .nil none 0
                | true => exact ⟨hlt, by rw [hτn j _ hy]; exact hu, _, _, _, hu⟩
              · rw [hy] at hx; injection hx with hx; subst hx; exact h0
            · cases hyv
          · rename_i g e0 t
            split at hyv
            · rename_i e T' t' hlive
              split at hyv
              · rename_i hcc
                obtain ⟨rfl, rfl, rfl, hx0, hge⟩ := hcc
                have hx0 : x0 = false := hx0
                subst hx0
                injection hyv with hyv; subst hyv
                have hown := hs.m.own _ _ _ _ hlive
                have hrep := hown.rep hpos hge
                obtain ⟨_, _, _, _, hu⟩ := hr
                refine ⟨⟨hlt, by simp only [E.lt, decide_eq_true_eq]; exact hlt, by rw [hd, hu]; exact hrep, by rw [hd]; exact hown.has, by rw [hτn j _ hy]; exact hu⟩, fun x hx => ?_⟩
                rw [hy] at hx; injection hx with hx; subst hx; exact hown.has
              · cases hyv
            · cases hyv
          · rename_i g t
            split at hyv
            · rename_i e T' t' hlive
              split at hyv
              · rename_i hcc
                obtain ⟨rfl, rfl, rfl, hx0, hge⟩ := hcc
                have hx0 : x0 = true := hx0
                subst hx0
                injection hyv with hyv; subst hyv
                have hown := hs.m.own _ _ _ _ hlive
                obtain ⟨_, hu, hsl'⟩ := hr
                refine ⟨⟨hlt, by rw [hτn j _ hy]; exact hu, hsl'⟩, fun x hx => ?_⟩
                rw [hy] at hx; injection hx with hx; subst hx; exact hown.has
              · cases hyv
            · cases hyv
          · cases hyv
      -- each slot is somewhere
      have slotHas : ∀ (j : Nat) x e, h.slots[j]? = some x → es[j]? = some e → Has (slotTy x.2.1 x.2.2) (den C.ρ e) := by
        rintro j ⟨s, ty, T⟩ e hj he
        obtain ⟨y, hy, hyv⟩ := vget hj
        have hye : y.1 = e := by have := hesg j y hy; rw [he] at this; injection this with this; exact this.symm
        have hsl' : ∃ c, slotOf σ s = some c := by
          unfold slotVal at hyv
          cases hq : slotOf σ s with
          | none => simp [hq] at hyv
          | some c => exact ⟨c, rfl⟩
        obtain ⟨c, hc⟩ := hsl'
        by_cases hmc : ∃ e0 kt0 T0, c = .mcon e0 kt0 T0
        · obtain ⟨e0, kt0, T0, rfl⟩ := hmc
          have hcell : ∃ id ro, σ.hp id = some (ro, [SC.mcon e0 kt0 T0]) ∨ ∃ u, RSC C w G (.mcon e0 kt0 T0) u := by
            cases s with
            | tmp t =>
              simp only [slotOf] at hc
              split at hc
              · rename_i c' ht'
                injection hc with hc; subst hc
                obtain ⟨v, _, _, _, h4⟩ := hs.t t _ _ ht'
                simp only [condB, List.all_nil, if_true] at h4
                exact ⟨0, false, .inr ⟨v, h4⟩⟩
              · cases hc
            | cell id i =>
              simp only [slotOf] at hc
              split at hc
              · rename_i ro cs hid
                obtain ⟨_, _, hblk, _⟩ := hs.m.box _ _ _ hid
                cases hmm : mapOf cs with
                | none =>
                  obtain ⟨vs', T', _, hr⟩ := hblk.cells hmm
                  have hil : i < vs'.length := by rw [hr.1]; exact (List.getElem?_eq_some_iff.1 hc).1
                  exact ⟨0, false, .inr ⟨_, hr.2 i _ _ hc (List.getElem?_eq_getElem hil)⟩⟩
                | some z =>
                  unfold mapOf at hmm
                  split at hmm
                  · cases i with
                    | zero => simp at hc; obtain ⟨rfl, rfl, rfl⟩ := hc; exact ⟨id, ro, .inl hid⟩
                    | succ i => simp at hc
                  · cases hmm
              · cases hc
          obtain ⟨id, ro, hid | ⟨u, hu⟩⟩ := hcell
          · obtain ⟨_, _, hblk, _⟩ := hs.m.box _ _ _ hid
            obtain ⟨_, hb2, _⟩ := hblk
            unfold slotVal at hyv
            simp only [hc] at hyv
            cases T with
            | none =>
              simp only at hyv
              split at hyv
              · rename_i kt T1 hmt
                split at hyv
                · rename_i hcc
                  obtain ⟨rfl, rfl⟩ := hcc
                  injection hyv with hyv
                  simp only [slotTy, hmt]
                  rw [← hye, ← hyv]; exact hb2
                · cases hyv
              · simp [asData] at hyv
            | some T1 => simp at hyv
          · exact hu.elim
        have hrsc : ∃ u, RSC C w G c u := by
          cases s with
          | tmp t =>
            simp only [slotOf] at hc
            split at hc
            · rename_i c' ht'
              injection hc with hc; subst hc
              obtain ⟨v, _, _, _, h4⟩ := hs.t t _ _ ht'
              simp only [condB, List.all_nil, if_true] at h4
              exact ⟨v, h4⟩
            · cases hc
          | cell id i =>
            simp only [slotOf] at hc
            split at hc
            · rename_i ro cs hid
              obtain ⟨_, _, hblk, _⟩ := hs.m.box _ _ _ hid
              have hnm : mapOf cs = none := by
                unfold mapOf
                split
                · cases i with
                  | zero => simp at hc; exact absurd ⟨_, _, _, hc.symm⟩ hmc
                  | succ i => simp at hc
                · rfl
              obtain ⟨vs', T', _, hr⟩ := hblk.cells hnm
              have hil : i < vs'.length := by rw [hr.1]; exact (List.getElem?_eq_some_iff.1 hc).1
              exact ⟨_, hr.2 i c _ hc (List.getElem?_eq_getElem hil)⟩
            · cases hc
        obtain ⟨u, hu⟩ := hrsc
        rw [← hye]
        exact (slot hj hc hu).2 y hy
      refine ⟨hesl, slotHas, G', ?_⟩
      have hhp' : ∀ id ro cs, h.st.hp id = some (ro, cs) → id < h.v0 ∧ ∃ cs', σ.hp id = some (ro, cs') ∧ fitCells h id 0 cs cs' = true := by
        intro id ro cs hx
        have hid : id < h.v0 := by
          rcases Nat.lt_or_ge id h.v0 with h1 | h1
          · exact h1
          · rw [hok.hp id h1] at hx; cases hx
        have := List.all_eq_true.1 hhp id (List.mem_range.2 hid)
        simp only [hx] at this
        split at this
        · rename_i ro' cs' hid'
          simp only [Bool.and_eq_true, beq_iff_eq] at this
          exact ⟨hid, cs', by rw [hid', this.1], this.2⟩
        · cases this
      have hlive' : ∀ g x, h.st.live g = some x → (g.1 < h.v0 ∧ σ.live g = some x ∧ x.1.lt h.v0 = true ∧ (∀ (j : Nat) y, vs[j]? = some y → y.2 ≠ some g)) ∨
          (∃ j s ty T0 y, h.slots[j]? = some (s, ty, some T0) ∧ vs[j]? = some y ∧ g = slotTag (h.v0 + j) T0 ∧ x = (.var (h.v0 + j), T0.1, ty) ∧ (y.2 = none ∧ y.1 = .nil ∨ ∃ g', y.2 = some g' ∧ σ.live g' = some (y.1, T0.1, ty) ∧ g'.ex = T0.2)) := by
        intro g x hx
        rcases hok.live g x hx with hk | ⟨j, s, T, hj, T0, hT, hg, hxe⟩
        · have := List.all_eq_true.1 hlv g hk
          simp only [hx, Bool.and_eq_true, decide_eq_true_eq, Bool.not_eq_true'] at this
          refine .inl ⟨this.1.1.2, this.1.1.1, this.1.2, fun j y hy he => ?_⟩
          have hmem : some g ∈ vs.map (·.2) := List.mem_map.2 ⟨y, List.mem_of_getElem? hy, he⟩
          have h2 := this.2
          rw [List.contains_eq_mem] at h2
          simp [hmem] at h2
        · obtain ⟨ty, T⟩ := T
          simp only at hT hxe
          subst hT
          obtain ⟨y, hy, hyv⟩ := vget hj
          refine .inr ⟨j, s, ty, T0, y, hj, hy, hg, hxe, ?_⟩
          unfold slotVal at hyv
          simp only at hyv
          split at hyv
          · split at hyv
            · split at hyv
              · injection hyv with hyv; subst hyv; exact .inl ⟨rfl, rfl⟩
              · cases hyv
            · rename_i g0 e0 t _
              split at hyv
              · rename_i e T' t' hl
                split at hyv
                · rename_i hcc
                  obtain ⟨rfl, rfl, rfl, hx0, hge⟩ := hcc
                  injection hyv with hyv; subst hyv
                  exact .inr ⟨g0, rfl, hl, hge.trans hx0.symm⟩
                · cases hyv
              · cases hyv
            · rename_i g0 t _
              split at hyv
              · rename_i e T' t' hl
                split at hyv
                · rename_i hcc
                  obtain ⟨rfl, rfl, rfl, hx0, hge⟩ := hcc
                  injection hyv with hyv; subst hyv
                  exact .inr ⟨g0, rfl, hl, hge.trans hx0.symm⟩
                · cases hyv
              · cases hyv
            · cases hyv
          · cases hyv
      -- the block behind a tag of the head
      have blk : ∀ g x b, h.st.live g = some x → (G'.τ g).ownBlock = some b → ∃ g0 x0, σ.live g0 = some x0 ∧ (G.τ g0).ownBlock = some b ∧ ((g.1 < h.v0 ∧ g0 = g) ∨ ∃ j y s ty T0, h.slots[j]? = some (s, ty, some T0) ∧ vs[j]? = some y ∧ y.2 = some g0 ∧ g = slotTag (h.v0 + j) T0) := by
        intro g x b hx hb
        rcases hlive' g x hx with ⟨h1, h2, h3, _⟩ | ⟨j, s, ty, T0, y, hj, hy, hg, hxe, hcase⟩
        · rw [hτ g h1] at hb; exact ⟨g, x, h2, hb, .inl ⟨h1, rfl⟩⟩
        · rw [hg] at hb
          unfold slotTag at hb
          rw [hτn j y hy] at hb
          rcases hcase with ⟨hn, _⟩ | ⟨g', hg', hl, _⟩
          · rw [hn] at hb; cases hb
          · rw [hg'] at hb; exact ⟨g', _, hl, hb, .inr ⟨j, y, s, ty, T0, hj, hy, hg', hg⟩⟩
      refine ⟨⟨rfl, rfl, ?_⟩, ?_, ?_, hs.sz, hs.defers⟩
      · rintro b (⟨id, y, hy, rfl⟩ | ⟨g, y, hy, hb⟩)
        · obtain ⟨_, ci, h2, _⟩ := hhp' id y.1 y.2 hy
          exact .inl ⟨id, _, h2, rfl⟩
        · obtain ⟨g0, x0, l0, b0, _⟩ := blk g y b hy hb
          exact .inr ⟨g0, x0, l0, b0⟩
      · -- memory
        refine ⟨hs.m.below, hs.m.foot0, hs.m.keep, ?_, hs.m.pinmu, hs.m.footlt, hs.m.footnew, ?_, ?_, ?_, ?_, ?_, ?_, ?_, fun hff g => ?_, hs.m.wz⟩
        rotate_right
        · show FrV (NewB w0 S0) w G.S (if h.v0 ≤ g.1 then (match vs[g.1 - h.v0]? with | some (_, some g') => G.τ g' | _ => .slice none 0 0) else G.τ g)
          split
          · split
            · exact hs.m.fresh hff _
            · intro a0 n0 cap0 hv0
              exact .inl rfl
          · exact hs.m.fresh hff g
        · intro i b hi
          exact ⟨Nat.lt_of_lt_of_le (hpin i b hi) (Nat.le_add_right _ _), (hs.m.pin i b hi).2⟩
        · intro id x hx
          obtain ⟨h1, _⟩ := hhp' id x.1 x.2 hx
          exact Nat.lt_of_lt_of_le h1 (Nat.le_add_right _ _)
        · intro id ro cs hx
          obtain ⟨h1, cs', h2, h3⟩ := hhp' id ro cs hx
          obtain ⟨b1, b2, hblk, b5⟩ := hs.m.box id ro cs' h2
          obtain ⟨k1, k2⟩ := fitCells_get h3
          cases hmm : mapOf cs' with
          | some z =>
            unfold mapOf at hmm
            split at hmm
            · rename_i e0 kt0 T0
              obtain ⟨c, hcc⟩ := List.length_eq_one_iff.1 k1
              subst hcc
              obtain ⟨g1, g2, g3⟩ := hblk
              rcases k2 0 c (.mcon e0 kt0 T0) rfl rfl with ⟨j, ty, T1, hsi, rfl⟩ | ⟨he, hlt, hids, hsc⟩
              · obtain ⟨_, hj⟩ := slotIdx_get hsi
                rw [Nat.sub_zero, Nat.zero_add] at hj
                obtain ⟨y, hy, hyv⟩ := vget hj
                have hd := hden j y hy
                unfold slotVal at hyv
                have hso : slotOf σ (.cell id 0) = some (.mcon e0 kt0 T0) := by simp only [slotOf, h2]; rfl
                simp only [hso] at hyv
                cases T1 with
                | none =>
                  simp only at hyv
                  split at hyv
                  · rename_i kt T2 hmt
                    split at hyv
                    · rename_i hcc
                      obtain ⟨rfl, rfl⟩ := hcc
                      injection hyv with hyv
                      rw [← hyv] at hd
                      simp only [slotNew, hmt]
                      exact ⟨b1, rfl, ⟨by simp only [E.lt, decide_eq_true_eq]; exact hjlt hj, by rw [hd]; exact g2, by rw [hd]; exact g3⟩, b5⟩
                    · cases hyv
                  · simp [asData] at hyv
                | some T1 => simp at hyv
              · subst he
                have hde : den C'.ρ e0 = den C.ρ e0 := den_agree hρ hlt
                have hup : e0.lt (h.v0 + h.size) = true := by
                  have : ∀ {e : E}, e.lt h.v0 = true → e.lt (h.v0 + h.size) = true := by
                    intro e
                    induction e with
                    | var i => intro he; simp only [E.lt, decide_eq_true_eq] at he ⊢; omega
                    | kint | kbool | kstr | nilp | nil => intro _; rfl
                    | cons a b iha ihb => intro he; simp only [E.lt, Bool.and_eq_true] at he ⊢; exact ⟨iha he.1, ihb he.2⟩
                    | un o e ih => intro he; exact ih he
                    | bin o a b iha ihb => intro he; simp only [E.lt, Bool.and_eq_true] at he ⊢; exact ⟨iha he.1, ihb he.2⟩
                    | ite c a b ihc iha ihb => intro he; simp only [E.lt, Bool.and_eq_true] at he ⊢; exact ⟨⟨ihc he.1.1, iha he.1.2⟩, ihb he.2⟩
                  exact this hlt
                exact ⟨b1, b2, ⟨hup, by rw [hde]; exact g2, by rw [hde]; exact g3⟩, b5⟩
            · cases hmm
          | none =>
          obtain ⟨us, T, b3, b4⟩ := hblk.cells hmm
          have cellsOk : ∀ (i : Nat) c, cs[i]? = some c → c.scalar = true ∧ ∀ u, us[i]? = some u → RSC C' w G' c u := by
            intro i c hc
            have hil : i < cs'.length := by rw [← k1]; exact (List.getElem?_eq_some_iff.1 hc).1
            have hc' : cs'[i]? = some cs'[i] := List.getElem?_eq_getElem hil
            rcases k2 i c _ hc hc' with ⟨j, ty, T1, hsi, rfl⟩ | ⟨he, hlt, hids, hsc⟩
            · obtain ⟨_, hj⟩ := slotIdx_get hsi
              rw [Nat.sub_zero] at hj
              rw [Nat.zero_add] at hj
              have hsc := List.all_eq_true.1 hsl _ (List.mem_of_getElem? hj)
              simp only [Bool.and_eq_true] at hsc
              refine ⟨?_, fun u hu => (slot hj (by simp only [slotOf, h2]; exact hc') (b4.2 i _ u hc' hu)).1⟩
              cases T1 with
              | none =>
                cases hmt : mapTy ty with
                | none => simp only [slotNew, slotTy, hmt] at hsc ⊢; exact hsc.1
                | some z => simp only [slotNew, hmt]; rfl
              | some T1 => obtain ⟨T1, _ | _⟩ := T1 <;> rfl
            · refine ⟨hsc, fun u hu => shrink ?_ hlt hids⟩
              have := b4.2 i _ u hc' hu
              rw [he] at this; exact this
          refine ⟨b1, ?_, BlkOk.mk (vs := us) (T := T) b3 ⟨by rw [b4.1, k1], fun i c u hc hu => (cellsOk i c hc).2 u hu⟩, ?_⟩
          · rw [List.all_eq_true]
            intro c hc
            obtain ⟨i, hi⟩ := List.getElem?_of_mem hc
            exact (cellsOk i c hi).1
          · rw [k1]; exact b5
        · intro i j x y hi hj he
          obtain ⟨_, ci, h2, _⟩ := hhp' i x.1 x.2 hi
          obtain ⟨_, cj, h3, _⟩ := hhp' j y.1 y.2 hj
          exact hs.m.inj i j _ _ h2 h3 he
        · intro g e T t hx
          rcases hlive' g _ hx with ⟨h1, h2, h3, _⟩ | ⟨j, s, ty, T0, y, hj, hy, hg, hxe, hcase⟩
          · have ho := hs.m.own g e T t h2
            have hde : den C'.ρ e = den C.ρ e := den_agree hρ h3
            have hlt' : e.lt (h.v0 + h.size) = true := by
              have := (shrink (c := .dat e .bool) (u := .bool true)) 
              clear this
              revert h3
              clear hx h2 ho hde
              induction e with
              | var i => intro he; simp only [E.lt, decide_eq_true_eq] at he ⊢; omega
              | kint | kbool | kstr | nilp | nil => intro _; rfl
              | cons a b iha ihb => intro he; simp only [E.lt, Bool.and_eq_true] at he ⊢; exact ⟨iha he.1, ihb he.2⟩
              | un o e ih => intro he; exact ih he
              | bin o a b iha ihb => intro he; simp only [E.lt, Bool.and_eq_true] at he ⊢; exact ⟨iha he.1, ihb he.2⟩
              | ite c a b ihc iha ihb => intro he; simp only [E.lt, Bool.and_eq_true] at he ⊢; exact ⟨⟨ihc he.1.1, iha he.1.2⟩, ihb he.2⟩
            obtain ⟨xs, l, q1, q2, q3, q4⟩ := ho.own
            refine ⟨Nat.lt_of_lt_of_le h1 (Nat.le_add_right _ _), hlt', by rw [hde]; exact ho.has, xs, l, by rw [hde]; exact q1, ?_, ?_, q4⟩
            · rw [hτ g h1]; exact q2
            · rw [hτ g h1]; exact q3
          · simp only [Prod.mk.injEq] at hxe
            obtain ⟨rfl, rfl, rfl⟩ := hxe
            have hd := hden j y hy
            have hlt := hjlt hj
            subst hg
            have hτs : G'.τ (slotTag (h.v0 + j) T0) = (match y.2 with | some g' => G.τ g' | none => .slice none 0 0) := hτn j y hy _
            have hsx := slotTag_ex (h.v0 + j) T0
            rcases hcase with ⟨hn, hnil⟩ | ⟨g', hg', hl, hgx⟩
            · refine ⟨hlt, by simpa [E.lt] using hlt, by rw [hd, hnil]; exact has_list.2 ⟨[], rfl, lenOk_zero _, by simp⟩, [], [], by rw [hd, hnil]; rfl, ?_, ?_, by simp⟩
              · rw [hτs, hn]; exact World.ownsRow_nil w _ _ _
              · rw [hτs, hn]; intro b hb; cases hb
            · have ho := hs.m.own _ _ _ _ hl
              obtain ⟨xs, l, q1, q2, q3, q4⟩ := ho.own
              refine ⟨hlt, by simpa [E.lt] using hlt, by rw [hd]; exact ho.has, xs, l, by rw [hd]; exact q1, ?_, ?_, q4⟩
              · rw [hτs, hg']; exact q2
              · rw [hτs, hg', hsx, ← hgx]; exact q3
        · intro g x b hx hb
          obtain ⟨g0, x0, h1, h2, _⟩ := blk g x b hx hb
          exact hs.m.ownnew g0 x0 b h1 h2
        · intro g g' x y b hx hy hb hb'
          obtain ⟨g0, x0, l0, b0, c0⟩ := blk g x b hx hb
          obtain ⟨g1, x1, l1, b1, c1⟩ := blk g' y b hy hb'
          have he := hs.m.ownne g0 g1 x0 x1 b l0 l1 b0 b1
          subst he
          rcases c0 with ⟨h1, rfl⟩ | ⟨j, z, s, ty, T0, hj, hz, hz2, hg⟩ <;> rcases c1 with ⟨h2, h3⟩ | ⟨j', z', s', ty', T0', hj', hz', hz2', hg'⟩
          · exact h3
          · rcases hlive' g0 x hx with ⟨_, _, _, hno⟩ | ⟨j0, _, _, _, _, _, _, hg0, _, _⟩
            · exact absurd hz2' (hno j' z' hz')
            · rw [hg0] at h1; simp [slotTag] at h1; omega
          · subst h3
            rcases hlive' g0 y hy with ⟨_, _, _, hno⟩ | ⟨j0, _, _, _, _, _, _, hg0, _, _⟩
            · exact absurd hz2 (hno j z hz)
            · rw [hg0] at h2; simp [slotTag] at h2; omega
          · have := nodupTags_ne hnd j j' g0 (by rw [List.getElem?_map, hz]; simp [hz2]) (by rw [List.getElem?_map, hz']; simp [hz2'])
            subst this
            rw [hj] at hj'; injection hj' with hj'; simp only [Prod.mk.injEq, Option.some.injEq] at hj'
            rw [hg, hg', hj'.2.2]
        · intro g id x y b hx hy hb
          obtain ⟨g0, x0, l0, b0, _⟩ := blk g x b hx hb
          obtain ⟨_, ci, h2, _⟩ := hhp' id y.1 y.2 hy
          exact hs.m.ownbox g0 id x0 _ b l0 h2 b0
      · -- the temporaries
        intro t c s hts
        have htn : t < n := by
          rcases Nat.lt_or_ge t n with h1 | h1
          · exact h1
          · rw [hok.tm t h1] at hts; cases hts
        have := List.all_eq_true.1 htm t (List.mem_range.2 htn)
        simp only [hts] at this
        split at this
        · rename_i j ty T hsi
          simp only [decide_eq_true_eq] at this
          obtain ⟨rfl, rfl⟩ := this
          obtain ⟨_, hj⟩ := slotIdx_get hsi
          rw [Nat.sub_zero] at hj
          obtain ⟨y, hy, hyv⟩ := vget hj
          have hc : ∃ c, σ.tm t = some ([], .one c) ∧ slotOf σ (.tmp t) = some c := by
            unfold slotVal at hyv
            cases hq : slotOf σ (.tmp t) with
            | none => simp [hq] at hyv
            | some c =>
              refine ⟨c, ?_, rfl⟩
              simp only [slotOf] at hq
              split at hq
              · rename_i c' h'; injection hq with hq; subst hq; exact h'
              · cases hq
          obtain ⟨c, hc1, hc2⟩ := hc
          obtain ⟨v, h1, _, _, h4⟩ := hs.t t _ _ hc1
          simp only [condB, List.all_nil, if_true] at h4
          have hr := (slot hj hc2 h4).1
          refine ⟨v, h1, by simp, ?_, by simp only [condB, List.all_nil, if_true]; exact hr⟩
          cases T with
          | none =>
            cases hmt : mapTy ty with
            | none => simp only [slotNew, hmt] at hr ⊢; exact hr.1
            | some z => simp only [slotNew, hmt] at hr; exact hr.elim
          | some T0 =>
            obtain ⟨T0, _ | _⟩ := T0
            · exact hr.2.1
            · rfl
        · simp only [Bool.and_eq_true, decide_eq_true_eq] at this
          obtain ⟨⟨⟨h1, h2⟩, h3⟩, h4⟩ := this
          obtain ⟨v, q1, q2, q3, q4⟩ := hs.t t c s h1
          have hc0 : ∀ x ∈ c, x.1.lt h.v0 = true := List.all_eq_true.1 h4
          have up : ∀ {e : E}, e.lt h.v0 = true → e.lt (h.v0 + h.size) = true := by
            intro e
            induction e with
            | var i => intro he; simp only [E.lt, decide_eq_true_eq] at he ⊢; omega
            | kint | kbool | kstr | nilp | nil => intro _; rfl
            | cons a b iha ihb => intro he; simp only [E.lt, Bool.and_eq_true] at he ⊢; exact ⟨iha he.1, ihb he.2⟩
            | un o e ih => intro he; exact ih he
            | bin o a b iha ihb => intro he; simp only [E.lt, Bool.and_eq_true] at he ⊢; exact ⟨iha he.1, ihb he.2⟩
            | ite c a b ihc iha ihb => intro he; simp only [E.lt, Bool.and_eq_true] at he ⊢; exact ⟨⟨ihc he.1.1, iha he.1.2⟩, ihb he.2⟩
          have upC : ∀ {c : SC}, c.lt h.v0 = true → c.lt (h.v0 + h.size) = true := by
            intro c hc; cases c <;> simp only [SC.lt, Bool.and_eq_true] at hc ⊢ <;> first | exact up hc | exact ⟨up hc.1, up hc.2⟩
          have hcond : condB C'.ρ c = condB C.ρ c := by
            unfold condB
            rw [Bool.eq_iff_iff, List.all_eq_true, List.all_eq_true]
            constructor
            · intro H x hx; rw [← den_agree hρ (hc0 x hx)]; exact H x hx
            · intro H x hx; rw [den_agree hρ (hc0 x hx)]; exact H x hx
          refine ⟨v, q1, fun x hx => up (hc0 x hx), ?_, ?_⟩
          · cases s with
            | one c => exact upC h2
            | agg l => simp only [SV.lt, List.all_eq_true] at h2 ⊢; exact fun c hc => upC (h2 c hc)
            | tup l => simp only [SV.lt, List.all_eq_true] at h2 ⊢; exact fun x hx c hc => upC (h2 x hx c hc)
          · show if condB C'.ρ c = true then _ else _
            rw [hcond]
            split
            · rename_i hcc; rw [if_pos hcc] at q4
              exact SV.cases_shrink q4 h2 h3 shrink
            · rename_i hcc; rw [if_neg hcc] at q4; exact q4
    · cases hfit
  · cases hfit

theorem fitSt_ok {h : Head} {es : List E} {ρ0 : Nat → D} (hs : Sim n w0 S0 C G σ a w) (hok : HeadOk n h) (hfit : fitSt n h σ = some es) (hρ0 : ∀ i, i < h.v0 → ρ0 i = C.ρ i) (hpin : ∀ i b, S0.pin i = some b → i < h.v0) :
    es.length = h.size ∧ (∀ (j : Nat) x e, h.slots[j]? = some x → es[j]? = some e → Has (slotTy x.2.1 x.2.2) (den C.ρ e)) ∧
    ∃ G', Sim n w0 S0 ⟨updV ρ0 h.v0 (es.map (den C.ρ)), h.v0 + h.size, fun i => i < h.v0 + h.size⟩ G' h.st a w := by
  obtain ⟨h1, h2, G', _, h3⟩ := fitSt_okX hs hok hfit hρ0 hpin
  exact ⟨h1, h2, G', h3⟩

end
end Go.Eng
/- A call that writes over a slice of integers of the caller's own: what else leaned on memory is forgotten. -/
namespace Go.Eng
open Go Go.RowKit

theorem E.lt_mono' {n m : Nat} (h : n ≤ m) : ∀ {e : E}, e.lt n = true → e.lt m = true := by
  intro e
  induction e with
  | var i => intro he; simp only [E.lt, decide_eq_true_eq] at he ⊢; omega
  | kint | kbool | kstr | nilp | nil => intro _; rfl
  | cons a b iha ihb => intro he; simp only [E.lt, Bool.and_eq_true] at he ⊢; exact ⟨iha he.1, ihb he.2⟩
  | un o e ih => intro he; exact ih he
  | bin o a b iha ihb => intro he; simp only [E.lt, Bool.and_eq_true] at he ⊢; exact ⟨iha he.1, ihb he.2⟩
  | ite c a b ihc iha ihb => intro he; simp only [E.lt, Bool.and_eq_true] at he ⊢; exact ⟨⟨ihc he.1.1, iha he.1.2⟩, ihb he.2⟩
theorem condB_agree' {ρ ρ' : Nat → D} {n : Nat} (h : ∀ i, i < n → ρ' i = ρ i) {c : Cond} (hc : (c.all fun x => x.1.lt n) = true) : condB ρ' c = condB ρ c := by
  unfold condB
  rw [List.all_eq_true] at hc
  rw [Bool.eq_iff_iff, List.all_eq_true, List.all_eq_true]
  constructor
  · intro H x hx; rw [← den_agree h (hc x hx)]; exact H x hx
  · intro H x hx; rw [den_agree h (hc x hx)]; exact H x hx

structure PlOp where
  k : Nat
  g : Tag
  e : E
  T : TypeId
  dst : Option Nat
  unit : Bool

def dstOk (n : Nat) : Option Nat → Bool
  | some d => decide (d < n)
  | none => true
def opPl (P : Program) (cs : Tbl) (n : Nat) (σ : St) (o : Oper) : Option PlOp :=
  match o.guard, o.op with
  | none, .call { callee := .value f, args, argTypes } =>
    match getV P σ [] f 0, args.toList with
    | some (.one (.dat _ (.fn k .nil))), [x] =>
      match lk cs.l k, getV P σ [] x (argTypes.getD 0 0) with
      | some sig, some (.one (.own g _ _)) =>
        match sig.ob, σ.live g with
        | some ob, some (e, T, t) =>
          if ob.isPl = true ∧ t = .int .i64 ∧ dstOk n o.dst = true then some ⟨k, g, e, T, o.dst, sig.res.isEmpty⟩ else none
        | _, _ => none
      | _, _ => none
    | _, _ => none
  | _, _ => none
def isPlCall (P : Program) (cs : Tbl) (σ : St) (o : Oper) : Bool :=
  match o.op with
  | .call { callee := .value f, .. } => match getV P σ [] f 0 with
    | some (.one (.dat _ (.fn k .nil))) => match lk cs.l k with
      | some sig => match sig.ob with
        | some ob => ob.isPl
        | none => false
      | none => false
    | _ => false
  | _ => false
/-- Which of a region's operations is such a call. -/
def plIdx (P : Program) (cs : Tbl) (σ : St) (ops : Array Oper) (draw : Bool) : Option Nat :=
  if draw || cs.fr != 0 then none else (List.range ops.size).find? fun i => match ops[i]? with
    | some o => isPlCall P cs σ o
    | none => false
theorem plIdx_ok {P : Program} {cs : Tbl} {σ : St} {ops : Array Oper} {draw : Bool} {c : Nat} (h : plIdx P cs σ ops draw = some c) : draw = false ∧ cs.fr = 0 ∧ c < ops.size := by
  unfold plIdx at h
  split at h
  · cases h
  · rename_i hd
    simp only [Bool.or_eq_true, not_or, Bool.not_eq_true, bne_iff_ne, ne_eq, Decidable.not_not] at hd
    exact ⟨hd.1, hd.2, by simpa using List.mem_of_find?_eq_some h⟩

def keepSC : SC → Bool
  | .dat _ (.int _) => true
  | .dat _ .bool => true
  | _ => false
def havTm (x : PlOp) (p : Nat) (tm : Nat → Option (Cond × SV)) (t : Nat) : Option (Cond × SV) :=
  if x.dst = some t then (if x.unit then none else some ([], .one (.own (p, 0) (.var p) (.int .i64))))
  else match tm t with
    | some (c, .one s) => if keepSC s then some (c, .one s) else match s with
        | .own g' _ _ => if g' = x.g ∧ x.unit = true ∧ c = [] then some ([], .one (.own (p, 0) (.var p) (.int .i64))) else none
        | _ => none
    | _ => none
def PlOp.after (x : PlOp) (σ : St) (p : Nat) : St :=
  ⟨havTm x p σ.tm, fun _ => none, fun y => if y = (p, 0) then some (.var p, x.T, .int .i64) else none⟩

theorem ints_of_has {l : List D} (h : ∀ x ∈ l, Has (.int .i64) x) : ∃ zs : List Int, l = zs.map (D.int .i64) := by
  induction l with
  | nil => exact ⟨[], rfl⟩
  | cons d l ih =>
    obtain ⟨zs, rfl⟩ := ih fun x hx => h x (List.mem_cons_of_mem _ hx)
    obtain ⟨n, rfl, _⟩ := has_int.1 (h d (List.mem_cons_self ..))
    exact ⟨n :: zs, rfl⟩

theorem cell_heap {w w' : World} {b o : Nat} (h : w'.heap[b]? = w.heap[b]?) : w'.cell? ⟨b, o, none⟩ = w.cell? ⟨b, o, none⟩ := by
  simp only [World.cell?, h]

theorem own_lt {w : World} {base : Nat} {T : TypeId} {v : Value} {m : Nat} {xs : List Value} (h : w.ownsRow base T 1 v m xs) {b : Nat} (hb : v.ownBlock = some b) : b < w.heap.size := by
  rcases h.2 with ⟨rfl, _⟩ | ⟨g, cap, cur, rfl, _, hg, _⟩
  · cases hb
  · simp only [Value.ownBlock, Option.some.injEq] at hb
    subst hb
    exact (Array.getElem?_eq_some_iff.1 hg).1

section
variable {P : Program} {w w0 : World} {S0 : Base} {ρ : Nat → D} {p : Nat} {G : Gh} {σ : St} {a : Act} {n : Nat}

/-- An owned slice of integers: its cells. -/
theorem OwnOk.ints {C : Cx} {g : Tag} {e : E} {T : TypeId} (h : OwnOk C w 0 G g e T (.int .i64)) : ∃ zs : List Int, den C.ρ e = .list (zs.map (D.int .i64)) ∧ w.ownsRow 0 T 1 (G.τ g) zs.length (zs.map (Value.int .i64)) := by
  obtain ⟨xs, l, hl, hown, _, hr⟩ := h.own
  have hh := h.has
  rw [hl] at hh
  obtain ⟨_, h1, _, h2⟩ := has_list.1 hh
  injection h1 with h1; subst h1
  obtain ⟨zs, rfl⟩ := ints_of_has h2
  refine ⟨zs, hl, ?_⟩
  have e1 : xs = zs.map (Value.int .i64) := by
    apply List.ext_getElem?
    intro i
    have hlen : xs.length = zs.length := by
      have h : xs.length = (zs.map (D.int .i64)).length * 1 := hown.1
      rw [List.length_map, Nat.mul_one] at h; exact h
    by_cases hi : i < zs.length
    · have hx : xs[i]? = some xs[i] := List.getElem?_eq_getElem (by omega)
      have hz : (zs.map (D.int .i64))[i]? = some (.int .i64 zs[i]) := by simp [hi]
      have := hr i _ 0 xs[i] (.int .i64 zs[i]) hz rfl (by show xs[i * 1 + 0]? = _; rw [Nat.mul_one, Nat.add_zero]; exact hx)
      rw [hx, this.inv_int]; simp [hi]
    · rw [List.getElem?_eq_none (by omega), List.getElem?_eq_none (by simp; omega)]
  have hown' : w.ownsRow 0 T 1 (G.τ g) (zs.map (D.int .i64)).length xs := hown
  rw [List.length_map] at hown'
  rw [← e1]; exact hown'

theorem Sim.placed {x : PlOp} {u v' : Value} {ys : List Int} {w' : World} (hs : Sim n w0 S0 ⟨ρ, p, fun i => i < p⟩ G σ a w) (hfl : ∀ b o, S0.foot b o → ¬ NewB w0 S0 b) (hg : ∃ e, σ.live x.g = some (e, x.T, .int .i64))
    (hdst : ∀ d, x.dst = some d → d < n) (hnf : ¬ S0.fr) (hnw : ¬ S0.wz) (hh : Has (.list (.int .i64)) (.list (ys.map (D.int .i64)))) (ho : PlOut w x.T (G.τ x.g) x.unit ys u v' w') :
    ∃ G', Sim n w0 S0 ⟨upd ρ p (.list (ys.map (D.int .i64))), p + 1, fun i => i < p + 1⟩ G' (x.after σ p) (a.put x.dst u) w' := by
  obtain ⟨e, hg⟩ := hg
  have hblk : ∀ b, v'.ownBlock = some b → NewB w0 S0 b := fun b hb => hs.m.ownnew x.g _ b hg (by rw [← ho.blk]; exact hb)
  have hblk0 : ∀ b, (G.τ x.g).ownBlock = some b → NewB w0 S0 b := fun b hb => hs.m.ownnew x.g _ b hg hb
  have hfoot : ∀ b o, S0.foot b o → w'.heap[b]? = w.heap[b]? := fun b o hb => ho.below.block b (hs.m.footlt b o (hs.m.foot0 b o hb)) (fun h => hfl b o hb (hblk0 b h))
  have hag : ∀ i, i < p → (upd ρ p (.list (ys.map (D.int .i64)))) i = ρ i := fun i hi => upd_ne _ _ (by omega)
  have hv : den (upd ρ p (.list (ys.map (D.int .i64)))) (.var p) = .list (ys.map (D.int .i64)) := upd_same _ _ _
  have hrep : ∀ (S : Foot), (∀ b, v'.ownBlock = some b → ∀ o, o < ys.length → S b o) → Rep w' S v' (.list (ys.map (D.int .i64))) := by
    intro S hS
    rcases ho.own.2 with ⟨rfl, h0⟩ | ⟨gb, cap, cur, rfl, _, hgb, hle, _, hsz, htk⟩
    · have : ys = [] := List.eq_nil_of_length_eq_zero h0
      subst this; exact .nil none 0
    · cases hys : ys with
      | nil => exact .nil _ _
      | cons y0 yr =>
        rw [← hys]
        have hlen : (ys.map (D.int .i64)).length = ys.length := by simp
        have := Rep.list (w := w') (S := S) gb 0 cap 1 (ys.map (Value.int .i64)) (ys.map (D.int .i64)) (by omega) (by rw [hys]; simp) (by simpa using hle) (by simp)
          (fun i hi => by rw [Nat.zero_add]; exact hS gb rfl i (by simpa using hi))
          (fun i v hi => by
            rw [cell_of_row w' gb (0 + i) cur x.T (0, 0) hgb, Nat.zero_add]
            have h1 : (cur.toList.take (ys.length * 1))[i]? = some v := by rw [htk]; exact hi
            rw [List.getElem?_take] at h1
            split at h1
            · simpa using h1
            · cases h1)
          (fun i d hd => by
            simp only [List.getElem?_map, Option.map_eq_some_iff] at hd
            obtain ⟨z, _, rfl⟩ := hd; rfl)
          (fun i d j v c hd hc hx => by
            simp only [List.getElem?_map, Option.map_eq_some_iff] at hd
            obtain ⟨z, hz, rfl⟩ := hd
            cases j with
            | succ j => simp [D.cells] at hc
            | zero =>
              simp only [D.cells, List.getElem?_cons_zero, Option.some.injEq] at hc; subst hc
              rw [Nat.mul_one, Nat.add_zero, List.getElem?_map, hz] at hx
              simp only [Option.map_some, Option.some.injEq] at hx; subst hx
              exact .int _ _)
        rwa [hlen] at this
  let S' : Foot := fun b o => S0.foot b o ∨ (v'.ownBlock = some b ∧ o < ys.length)
  have hS' : ∀ b, v'.ownBlock = some b → ∀ o, S' b o ↔ o < ys.length := fun b hb o =>
    ⟨fun h => h.elim (fun h => absurd (hblk b hb) (hfl b o h)) (fun h => h.2), fun h => .inr ⟨hb, h⟩⟩
  have hrepS := hrep S' (fun b hb o h => (hS' b hb o).2 h)
  let G' : Gh := ⟨S', G.β, fun y => if y = (p, 0) then v' else G.τ y⟩
  have hτ : G'.τ (p, 0) = v' := if_pos rfl
  have hM : (fun i => i < p + 1) p := Nat.lt_succ_self p
  have hvlt : (E.var p).lt (p + 1) = true := by simp [E.lt]
  have hown : OwnOk ⟨upd ρ p (.list (ys.map (D.int .i64))), p + 1, fun i => i < p + 1⟩ w' 0 G' (p, 0) (.var p) x.T (.int .i64) := by
    refine ⟨hM, hvlt, by rw [hv]; exact hh, ys.map (Value.int .i64), ys.map (D.int .i64), hv, ?_, ?_, ?_⟩
    · rw [hτ, List.length_map]; exact ho.own
    · intro b hb o
      rw [hτ] at hb
      rw [List.length_map]; exact (hS' b hb o).trans ⟨fun h => ⟨rfl, h⟩, And.right⟩
    · intro i d j v c hd hc hx
      simp only [List.getElem?_map, Option.map_eq_some_iff] at hd
      obtain ⟨z, hz, rfl⟩ := hd
      cases j with
      | succ j => simp [D.cells] at hc
      | zero =>
        simp only [D.cells, List.getElem?_cons_zero, Option.some.injEq] at hc; subst hc
        have e1 : (Ty.int .i64).cells.length = 1 := rfl
        rw [e1, Nat.mul_one, Nat.add_zero, List.getElem?_map, hz] at hx
        simp only [Option.map_some, Option.some.injEq] at hx; subst hx
        exact .int _ _
  have hlive : ∀ y z, (x.after σ p).live y = some z → y = (p, 0) ∧ z = (.var p, x.T, .int .i64) := by
    intro y z hy
    simp only [PlOp.after] at hy
    split at hy
    · rename_i h; injection hy with hy; exact ⟨h, hy.symm⟩
    · cases hy
  have hsc : RSC ⟨upd ρ p (.list (ys.map (D.int .i64))), p + 1, fun i => i < p + 1⟩ w' G' (.own (p, 0) (.var p) (.int .i64)) v' :=
    ⟨hM, hvlt, by rw [hv]; exact hrepS, by rw [hv]; exact hh, hτ.symm⟩
  refine ⟨G', ⟨⟨?_, fun b o h => .inl h, ?_, ?_, hs.m.pinmu, ?_, ?_, ?_, ?_, ?_, ?_, ?_, ?_, ?_, fun h => absurd h hnf, fun h => absurd h hnw⟩, ?_, by rw [Act.put_size]; exact hs.sz, by rw [Act.put_def]; exact hs.defers⟩⟩
  · refine ⟨ho.below.os.trans hs.m.below.os, ho.below.tape.trans hs.m.below.tape, ho.below.output.trans hs.m.below.output, Nat.le_trans hs.m.below.size ho.below.size, fun k hk hmu => ?_⟩
    rw [ho.below.block k (Nat.lt_of_lt_of_le hk hs.m.below.size) (fun h => (hblk0 k h).elim (fun h => absurd hk (Nat.not_lt.2 h)) hmu), hs.m.below.block k hk hmu]
  · intro b o h
    rw [cell_heap (hfoot b o h)]; exact hs.m.keep b o h
  · intro i b hi
    obtain ⟨h1, h2⟩ := hs.m.pin i b hi
    exact ⟨Nat.lt_succ_of_lt h1, h2⟩
  · rintro b o (h | ⟨h, _⟩)
    · exact Nat.lt_of_lt_of_le (hs.m.footlt b o (hs.m.foot0 b o h)) ho.below.size
    · exact own_lt ho.own h
  · rintro b o (h | ⟨h, _⟩)
    · exact .inl h
    · exact .inr (hblk b h)
  · intro id y hy; cases hy
  · intro id ro cs hy; cases hy
  · intro i j y z hy; cases hy
  · intro g' e' T' t' hy
    obtain ⟨rfl, h2⟩ := hlive _ _ hy
    simp only [Prod.mk.injEq] at h2
    obtain ⟨rfl, rfl, rfl⟩ := h2
    exact hown
  · intro g' z b hy hb
    obtain ⟨rfl, _⟩ := hlive _ _ hy
    rw [hτ] at hb; exact hblk b hb
  · intro g1 g2 y z b h1 h2 _ _
    rw [(hlive _ _ h1).1, (hlive _ _ h2).1]
  · intro g' id y z b _ hy; cases hy
  · intro t c s ht
    simp only [PlOp.after, havTm] at ht
    split at ht
    · rename_i hd
      split at ht
      · cases ht
      · rename_i hu
        simp only [Option.some.injEq, Prod.mk.injEq] at ht
        obtain ⟨rfl, rfl⟩ := ht
        have hres := ho.res
        rw [if_neg hu] at hres
        subst hres
        have hlt : t < a.tmps.size := by rw [hs.sz]; exact hdst t hd
        refine ⟨u, by rw [hd]; simp [Act.put, hlt], by simp, hvlt, ?_⟩
        have : condB (upd ρ p (.list (ys.map (D.int .i64)))) ([] : Cond) = true := rfl
        rw [if_pos this]; exact hsc
    · rename_i hd
      have hput : ∀ v, a.tmps[t]? = some v → (a.put x.dst u).tmps[t]? = some v := by
        intro v hv
        unfold Act.put
        cases hdd : x.dst with
        | none => exact hv
        | some d =>
          have hne : d ≠ t := fun h => hd (by rw [hdd, h])
          simp only
          rw [Array.getElem?_setIfInBounds_ne hne]; exact hv
      split at ht
      · rename_i c' s' hst
        obtain ⟨v, h1, h2, h0, h3⟩ := hs.t t c' _ hst
        have hlt2 : ∀ y ∈ c', y.1.lt (p + 1) = true := fun y hy => E.lt_mono' (Nat.le_succ p) (h2 y hy)
        have hcb : condB (upd ρ p (.list (ys.map (D.int .i64)))) c' = condB ρ c' := condB_agree' hag (List.all_eq_true.2 h2)
        split at ht
        · rename_i hkeep
          simp only [Option.some.injEq, Prod.mk.injEq] at ht
          obtain ⟨rfl, rfl⟩ := ht
          obtain ⟨e', k', hse⟩ : ∃ (e' : E) (ty : Ty), s' = .dat e' ty ∧ ((∃ k, ty = .int k) ∨ ty = .bool) := by
            cases s' with
            | dat e' ty =>
              cases ty with
              | int k => exact ⟨e', _, rfl, .inl ⟨k, rfl⟩⟩
              | bool => exact ⟨e', _, rfl, .inr rfl⟩
              | _ => cases hkeep
            | _ => cases hkeep
          obtain ⟨rfl, hty⟩ := hse
          have hel : e'.lt p = true := h0
          refine ⟨v, hput v h1, hlt2, E.lt_mono' (Nat.le_succ p) hel, ?_⟩
          rw [hcb]
          have h3' : if condB ρ c' = true then RSV ⟨ρ, p, fun i => i < p⟩ w G (.one (.dat e' k')) v else v = undef := h3
          split
          · rename_i hc
            rw [if_pos hc] at h3'
            obtain ⟨_, q2, q3⟩ := h3'
            have hde : den (upd ρ p (.list (ys.map (D.int .i64)))) e' = den ρ e' := den_agree hag hel
            refine ⟨E.lt_mono' (Nat.le_succ p) hel, ?_, by rw [hde]; exact q3⟩
            rw [hde]
            rcases hty with ⟨k, rfl⟩ | rfl
            · obtain ⟨m, hm, _⟩ := has_int.1 q3
              have q2' : Rep w G.S v (den ρ e') := q2
              have hm' : den ρ e' = .int k m := hm
              rw [hm'] at q2' ⊢
              rw [q2'.inv_int]; exact .int _ _
            · obtain ⟨m, hm⟩ := has_bool.1 q3
              have q2' : Rep w G.S v (den ρ e') := q2
              have hm' : den ρ e' = .bool m := hm
              rw [hm'] at q2' ⊢
              rw [q2'.inv_bool]; exact .bool _
          · rename_i hc
            rw [if_neg hc] at h3'; exact h3'
        · split at ht
          · rename_i g' _ _
            split at ht
            · rename_i hc
              obtain ⟨rfl, hu, rfl⟩ := hc
              simp only [Option.some.injEq, Prod.mk.injEq] at ht
              obtain ⟨rfl, rfl⟩ := ht
              have hres := ho.res
              rw [if_pos hu] at hres
              subst hres
              have : condB ρ ([] : Cond) = true := rfl
              have h3' := h3
              rw [if_pos this] at h3'
              obtain ⟨_, _, _, _, hvτ⟩ := h3'
              refine ⟨v, hput v h1, by simp, hvlt, ?_⟩
              have : condB (upd ρ p (.list (ys.map (D.int .i64)))) ([] : Cond) = true := rfl
              rw [if_pos this, hvτ]; exact hsc
            · cases ht
          · cases ht
      · cases ht

theorem opPl_ok {cs : Tbl} {Φ : Nat → List D → D} {Pre : Nat → List D → Prop} {ops : Array Oper} {o : Oper} {x : PlOp} (h : opPl P cs n σ o = some x) (hcon : ∀ k sig, lk cs.l k = some sig → PureFn P k sig (Pre k) (Φ k))
    (hs : Sim n w0 S0 ⟨ρ, p, fun i => i < p⟩ G σ a w) (hpre : Pre x.k [den ρ x.e]) (hpl : ∀ k sig ob, lk cs.l k = some sig → sig.ob = some ob → ob.isPl = true → ∀ b o, S0.foot b o → ¬ NewB w0 S0 b) (hnf : ¬ S0.fr) (hnw : ¬ S0.wz) :
    ∀ (next : Act → World → Prop) (Q : Exit → Act → World → Prop), (∀ a' w' G', Sim n w0 S0 ⟨upd ρ p (Φ x.k [den ρ x.e]), p + 1, fun i => i < p + 1⟩ G' (x.after σ p) a' w' → next a' w') → Region.wanted o (yielded ops a.tmps) = true ∧ o.wp P a w next Q := by
  intro next Q hQ
  unfold opPl at h
  split at h
  · rename_i f args argTypes hgd hop
    split at h
    · rename_i fe k y hf hargs
      split at h
      · rename_i sig g _ _ hk hy
        split at h
        · rename_i ob e T t hob hlv
          split at h
          · rename_i hc
            obtain ⟨hpl1, rfl, hdst⟩ := hc
            injection h with h; subst h
            have hfl := hpl k sig ob hk hob hpl1
            have hown := hs.m.own g e T (.int .i64) hlv
            obtain ⟨zs, hz, hrow⟩ := hown.ints
            have hcon' := hcon k sig hk
            have hfv : a.eval f = .func (.func k) #[] #[] := by
              obtain ⟨_, h2, h3⟩ := getV_ok hs.t (pc := []) rfl hf
              obtain ⟨l, hl, hnil⟩ := has_fn.1 h3
              rw [has_nil.1 hnil] at hl
              rw [hl] at h2
              obtain ⟨cv, hcv, hlen, _⟩ := h2.inv_fn
              rw [hcv, List.eq_nil_of_length_eq_zero hlen]
            have hyv : a.eval y = G.τ g := (getV_ok hs.t (pc := []) rfl hy).2.2.2.2
            have hargs' : args.map a.eval = #[G.τ g] := by
              apply Array.ext'
              rw [Array.toList_map, hargs]; simp [hyv]
            have hrun : (execOp a.eval o).run P w = .ok (.enter k #[G.τ g]) w := by
              unfold execOp; simp only [hop, resolve, hfv, Deferred.ofValue, hargs']
              have := hcon'.enter #[G.τ g] w
              simpa [invoke] using this
            refine ⟨by unfold Region.wanted; rw [hgd], ?_⟩
            unfold Oper.wp
            rw [hrun]
            have hz' : den ρ e = .list (zs.map (D.int .i64)) := hz
            have hhas : Has (.list (.int .i64)) (.list (zs.map (D.int .i64))) := by rw [← hz']; exact hown.has
            have hpre' : Pre k [.list (zs.map (D.int .i64))] := by rw [← hz']; exact hpre
            refine (hcon'.pcalls ob hob hpl1 w T (G.τ g) zs hrow hhas hpre').mono ?_
            rintro e' w' ⟨u, v', ys, rfl, hΦ, hh, hout⟩
            simp only
            obtain ⟨G', hs'⟩ := Sim.placed (x := ⟨k, g, e, T, o.dst, sig.res.isEmpty⟩) hs hfl ⟨e, hlv⟩ (fun d hd => by
              have hd' : o.dst = some d := hd
              rw [hd'] at hdst; simpa [dstOk] using hdst) hnf hnw hh hout
            refine hQ _ w' G' ?_
            rw [hz', hΦ]; exact hs'
          · cases h
        · cases h
      · cases h
    · cases h
  · cases h
end
end Go.Eng
/- A write into what readings lean on: numbers for numbers, truths for truths; all else that leaned on it reads as something alike. -/
namespace Go.Eng
open Go Go.RowKit

/-- The same, or another number of the kind, or another truth. -/
def Cls (v v' : Value) : Prop := v' = v ∨ (∃ k n n', v = .int k n ∧ v' = .int k n' ∧ inK k n') ∨ ∃ b b', v = .bool b ∧ v' = .bool b'

theorem choose_list {α : Type} {Q : Nat → α → Prop} : ∀ n, (∀ i, i < n → ∃ x, Q i x) → ∃ l : List α, l.length = n ∧ ∀ (i : Nat) x, l[i]? = some x → Q i x
  | 0, _ => ⟨[], rfl, by simp⟩
  | n + 1, h => by
    obtain ⟨l, h1, h2⟩ := choose_list n (fun i hi => h i (by omega))
    obtain ⟨x, hx⟩ := h n (by omega)
    refine ⟨l ++ [x], by simp [h1], fun i y hy => ?_⟩
    by_cases hi : i < n
    · rw [List.getElem?_append_left (by omega)] at hy; exact h2 i y hy
    · rw [List.getElem?_append_right (by omega)] at hy
      have hil := (List.getElem?_eq_some_iff.1 hy).1
      simp at hil
      have : i = n := by omega
      subst this
      simp [h1] at hy
      subst hy; exact hx

/-- Alike: of the same types, as long. -/
structure Kin (d d' : D) : Prop where
  has : ∀ t, Has t d → Has t d'
  len : d'.toL.length = d.toL.length
  agg : (∃ l, d' = .agg l) → ∃ l, d = .agg l
theorem Kin.refl (d : D) : Kin d d := ⟨fun _ h => h, rfl, fun h => h⟩

theorem hasL_kin : ∀ {fs : Ty} {l l' : List D}, HasL fs l → l'.length = l.length → (∀ (i : Nat) x x', l[i]? = some x → l'[i]? = some x' → ∀ t, Has t x → Has t x') → HasL fs l'
  | .nil, l, l', h, hl, _ => by
    rw [has_nil.1 h] at hl
    exact has_nil.2 (List.eq_nil_of_length_eq_zero (by simpa using hl))
  | .cons a b, l, l', h, hl, hk => by
    obtain ⟨x, r, rfl, hx, hr⟩ := has_cons.1 h
    cases l' with
    | nil => simp at hl
    | cons x' r' => exact has_cons.2 ⟨x', r', rfl, hk 0 x x' rfl rfl a hx, hasL_kin hr (by simpa using hl) fun i y y' hy hy' => hk (i + 1) y y' (by simpa using hy) (by simpa using hy')⟩
  | .int _, _, _, h, _, _ | .bool, _, _, h, _, _ | .str, _, _, h, _, _ | .list _, _, _, h, _, _ | .agg _, _, _, h, _, _ | .tup _, _, _, h, _, _ | .box _, _, _, h, _, _ | .ptr _, _, _, h, _, _ | .fn _ _, _, _, h, _, _ => h.elim

theorem cls_rep {w w' : World} {S : Foot} {v v' : Value} {d : D} (hv : Rep w S v d) (h : Cls v v') (h0 : ∃ d0, Rep w' S v d0 ∧ Kin d d0) : ∃ d', Rep w' S v' d' ∧ Kin d d' := by
  rcases h with rfl | ⟨k, n, n', rfl, rfl, hn⟩ | ⟨b, b', rfl, rfl⟩
  · exact h0
  · cases hv
    refine ⟨_, .int k n', fun t ht => ?_, rfl, by rintro ⟨l, hl⟩; cases hl⟩
    cases t <;> try simp [has_int, has_bool, has_str, has_list, has_agg, has_tup, has_box, has_ptr, has_fn] at ht
    · obtain ⟨_, ⟨rfl, _⟩, _⟩ := ht; exact has_int.2 ⟨n', rfl, hn⟩
    · exact ht.elim
    · exact ht.elim
  · cases hv
    refine ⟨_, .bool b', fun t ht => ?_, rfl, by rintro ⟨l, hl⟩; cases hl⟩
    cases t <;> try simp [has_int, has_bool, has_str, has_list, has_agg, has_tup, has_box, has_ptr, has_fn] at ht
    · exact has_bool.2 ⟨b', rfl⟩
    · exact ht.elim
    · exact ht.elim

theorem cells_of {d : D} : (∃ l, d = .agg l) ∨ (d.cells = [d] ∧ ∀ l, d ≠ .agg l) := by cases d <;> first | exact .inl ⟨_, rfl⟩ | exact .inr ⟨rfl, fun _ h => by cases h⟩

theorem Rep.hv {w w' : World} {S : Foot} {v : Value} {d : D} (hc : ∀ b o v, S b o → w.cell? ⟨b, o, none⟩ = some v → ∃ v', w'.cell? ⟨b, o, none⟩ = some v' ∧ Cls v v') (h : Rep w S v d) : ∃ d', Rep w' S v d' ∧ Kin d d' := by
  induction h with
  | int k n => exact ⟨_, .int k n, Kin.refl _⟩
  | bool b => exact ⟨_, .bool b, Kin.refl _⟩
  | str s => exact ⟨_, .str s, Kin.refl _⟩
  | nilp => exact ⟨_, .nilp, Kin.refl _⟩
  | nil a cap => exact ⟨_, .nil a cap, Kin.refl _⟩
  | agg cs ds hl _ ih =>
    obtain ⟨l, h1, h2⟩ := choose_list (Q := fun i x => ∀ v d, cs[i]? = some v → ds[i]? = some d → Rep w' S v x ∧ Kin d x) ds.length (fun i hi => by
      obtain ⟨d', h3, h4⟩ := ih i (cs[i]'(by omega)) ds[i] (List.getElem?_eq_getElem _) (List.getElem?_eq_getElem hi)
      refine ⟨d', fun v d hv hd => ?_⟩
      rw [List.getElem?_eq_getElem (by omega)] at hv hd
      injection hv with hv; injection hd with hd; subst hv; subst hd
      exact ⟨h3, h4⟩)
    refine ⟨.agg l, .agg cs l (by omega) fun i v d hv hd => (h2 i d hd v (ds[i]'(by have := (List.getElem?_eq_some_iff.1 hv).1; omega)) hv (List.getElem?_eq_getElem _)).1, fun t ht => ?_, h1, fun _ => ⟨_, rfl⟩⟩
    cases t <;> try simp [has_int, has_bool, has_str, has_list, has_agg, has_tup, has_box, has_ptr, has_fn] at ht
    · exact has_agg.2 ⟨_, rfl, hasL_kin ht h1 fun i x x' hx hx' t htx => (h2 i x' hx' (cs[i]'(by have := (List.getElem?_eq_some_iff.1 hx).1; omega)) x (List.getElem?_eq_getElem _) hx).2.has t htx⟩
    · exact ht.elim
    · exact ht.elim
  | tup cs ds hl _ ih =>
    obtain ⟨l, h1, h2⟩ := choose_list (Q := fun i x => ∀ v d, cs[i]? = some v → ds[i]? = some d → Rep w' S v x ∧ Kin d x) ds.length (fun i hi => by
      obtain ⟨d', h3, h4⟩ := ih i (cs[i]'(by omega)) ds[i] (List.getElem?_eq_getElem _) (List.getElem?_eq_getElem hi)
      refine ⟨d', fun v d hv hd => ?_⟩
      rw [List.getElem?_eq_getElem (by omega)] at hv hd
      injection hv with hv; injection hd with hd; subst hv; subst hd
      exact ⟨h3, h4⟩)
    refine ⟨.tup l, .tup cs l (by omega) fun i v d hv hd => (h2 i d hd v (ds[i]'(by have := (List.getElem?_eq_some_iff.1 hv).1; omega)) hv (List.getElem?_eq_getElem _)).1, fun t ht => ?_, h1, by rintro ⟨l, hl⟩; cases hl⟩
    cases t <;> try simp [has_int, has_bool, has_str, has_list, has_agg, has_tup, has_box, has_ptr, has_fn] at ht
    · exact has_tup.2 ⟨_, rfl, hasL_kin ht h1 fun i x x' hx hx' t htx => (h2 i x' hx' (cs[i]'(by have := (List.getElem?_eq_some_iff.1 hx).1; omega)) x (List.getElem?_eq_getElem _) hx).2.has t htx⟩
    · exact ht.elim
    · exact ht.elim
  | fn f cs ds hl _ ih =>
    obtain ⟨l, h1, h2⟩ := choose_list (Q := fun i x => ∀ v d, cs[i]? = some v → ds[i]? = some d → Rep w' S v x ∧ Kin d x) ds.length (fun i hi => by
      obtain ⟨d', h3, h4⟩ := ih i (cs[i]'(by omega)) ds[i] (List.getElem?_eq_getElem _) (List.getElem?_eq_getElem hi)
      refine ⟨d', fun v d hv hd => ?_⟩
      rw [List.getElem?_eq_getElem (by omega)] at hv hd
      injection hv with hv; injection hd with hd; subst hv; subst hd
      exact ⟨h3, h4⟩)
    refine ⟨.fn f l, .fn f cs l (by omega) fun i v d hv hd => (h2 i d hd v (ds[i]'(by have := (List.getElem?_eq_some_iff.1 hv).1; omega)) hv (List.getElem?_eq_getElem _)).1, fun t ht => ?_, h1, by rintro ⟨l, hl⟩; cases hl⟩
    cases t <;> try simp [has_int, has_bool, has_str, has_list, has_agg, has_tup, has_box, has_ptr, has_fn] at ht
    · obtain ⟨_, ⟨rfl, rfl⟩, ht⟩ := ht
      exact has_fn.2 ⟨_, rfl, hasL_kin ht h1 fun i x x' hx hx' t htx => (h2 i x' hx' (cs[i]'(by have := (List.getElem?_eq_some_iff.1 hx).1; omega)) x (List.getElem?_eq_getElem _) hx).2.has t htx⟩
    · exact ht.elim
    · exact ht.elim
  | ptr b cs ds hl hS hcs _ ih =>
    obtain ⟨cs', hx1, hx2⟩ := choose_list (Q := fun i x => w'.cell? ⟨b, i, none⟩ = some x ∧ ∀ v, cs[i]? = some v → Cls v x) cs.length (fun i hi => by
      obtain ⟨v', h3, h4⟩ := hc b i cs[i] (hS i (by omega)) (hcs i _ (List.getElem?_eq_getElem hi))
      exact ⟨v', h3, fun v hv => by rw [List.getElem?_eq_getElem hi] at hv; injection hv with hv; subst hv; exact h4⟩)
    obtain ⟨l, h1, h2⟩ := choose_list (Q := fun i x => ∀ v d, cs'[i]? = some v → ds[i]? = some d → Rep w' S v x ∧ Kin d x) ds.length (fun i hi => by
      have hic : i < cs.length := by omega
      obtain ⟨d', h3, h4⟩ := cls_rep (w' := w') (ih i cs[i] ds[i] (List.getElem?_eq_getElem _) (List.getElem?_eq_getElem hi) |> fun _ => (by assumption : ∀ (i : Nat) v d, cs[i]? = some v → ds[i]? = some d → Rep w S v d) i cs[i] ds[i] (List.getElem?_eq_getElem _) (List.getElem?_eq_getElem hi)) ((hx2 i (cs'[i]'(by omega)) (List.getElem?_eq_getElem _)).2 _ (List.getElem?_eq_getElem hic))
        (ih i cs[i] ds[i] (List.getElem?_eq_getElem _) (List.getElem?_eq_getElem hi))
      refine ⟨d', fun v d hv hd => ?_⟩
      rw [List.getElem?_eq_getElem (by omega)] at hv hd
      injection hv with hv; injection hd with hd; subst hv; subst hd
      exact ⟨h3, h4⟩)
    refine ⟨.ptr l, .ptr b cs' l (by omega) (fun i hi => hS i (by omega)) (fun i v hv => (hx2 i v hv).1) (fun i v d hv hd => (h2 i d hd v (ds[i]'(by have := (List.getElem?_eq_some_iff.1 hv).1; omega)) hv (List.getElem?_eq_getElem _)).1), fun t ht => ?_, h1, by rintro ⟨l, hl⟩; cases hl⟩
    have key : ∀ fs, HasL fs ds → HasL fs l := fun fs ht => hasL_kin ht h1 fun i x x' hx hx' t htx => (h2 i x' hx' (cs'[i]'(by have := (List.getElem?_eq_some_iff.1 hx).1; omega)) x (List.getElem?_eq_getElem _) hx).2.has t htx
    cases t <;> try simp [has_int, has_bool, has_str, has_list, has_agg, has_tup, has_box, has_ptr, has_fn] at ht
    · exact has_box.2 ⟨_, rfl, key _ ht⟩
    · exact has_ptr.2 (.inr ⟨_, rfl, key _ ht⟩)
    · exact ht.elim
    · exact ht.elim
  | list b off cap sz xs ds hsz hne hcap hl hS hcs hw hr ih =>
    obtain ⟨xs', hx1, hx2⟩ := choose_list (Q := fun q x => w'.cell? ⟨b, off + q, none⟩ = some x ∧ ∀ v, xs[q]? = some v → Cls v x) xs.length (fun q hq => by
      obtain ⟨v', h3, h4⟩ := hc b (off + q) xs[q] (hS q hq) (hcs q _ (List.getElem?_eq_getElem hq))
      exact ⟨v', h3, fun v hv => by rw [List.getElem?_eq_getElem hq] at hv; injection hv with hv; subst hv; exact h4⟩)
    obtain ⟨l, h1, h2⟩ := choose_list (Q := fun i x => ∀ d, ds[i]? = some d → (∀ t, Has t d → Has t x) ∧ x.cells.length = sz ∧ ∀ (j : Nat) v c, x.cells[j]? = some c → xs'[i * sz + j]? = some v → Rep w' S v c) ds.length (fun i hi => by
      have hdi : ds[i]? = some ds[i] := List.getElem?_eq_getElem hi
      have hwi := hw i _ hdi
      have hbound : (i + 1) * sz ≤ ds.length * sz := Nat.mul_le_mul_right _ hi
      rw [Nat.add_mul] at hbound
      obtain ⟨cs, hcl, hcq⟩ := choose_list (Q := fun j c' => ∀ c v', ds[i].cells[j]? = some c → xs'[i * sz + j]? = some v' → Rep w' S v' c' ∧ Kin c c') sz (fun j hj => by
        have hq : i * sz + j < xs.length := by omega
        have hcj : ds[i].cells[j]? = some (ds[i].cells[j]'(by omega)) := List.getElem?_eq_getElem _
        obtain ⟨c', h3, h4⟩ := cls_rep (w' := w') (hr i _ j _ _ hdi hcj (List.getElem?_eq_getElem hq)) ((hx2 (i * sz + j) (xs'[i * sz + j]'(by omega)) (List.getElem?_eq_getElem _)).2 _ (List.getElem?_eq_getElem hq))
          (ih i _ j _ _ hdi hcj (List.getElem?_eq_getElem hq))
        refine ⟨c', fun c v' hc' hv' => ?_⟩
        rw [hcj] at hc'
        rw [List.getElem?_eq_getElem (by omega)] at hv'
        injection hc' with hc'; injection hv' with hv'; subst hc'; subst hv'
        exact ⟨h3, h4⟩)
      have get' : ∀ (j : Nat) c, cs[j]? = some c → ∀ v', xs'[i * sz + j]? = some v' → Rep w' S v' c := fun j c hj v' hv' => by
        have hjl : j < sz := by rw [← hcl]; exact (List.getElem?_eq_some_iff.1 hj).1
        exact (hcq j c hj _ v' (List.getElem?_eq_getElem (by omega)) hv').1
      have kin' : ∀ (j : Nat) c c', ds[i].cells[j]? = some c → cs[j]? = some c' → Kin c c' := fun j c c' hj hj' => by
        have hjl : j < sz := by rw [← hcl]; exact (List.getElem?_eq_some_iff.1 hj').1
        exact (hcq j c' hj' c _ hj (List.getElem?_eq_getElem (by omega))).2
      rcases cells_of (d := ds[i]) with ⟨l0, hl0⟩ | ⟨hone, hna⟩
      · refine ⟨.agg cs, fun d hd => ?_⟩
        rw [hdi] at hd; injection hd with hd; subst hd
        refine ⟨fun t ht => ?_, hcl, fun j v c hj hv => get' j c hj v hv⟩
        rw [hl0] at ht kin' hwi
        cases t <;> try simp [has_int, has_bool, has_str, has_list, has_agg, has_tup, has_box, has_ptr, has_fn] at ht
        · exact has_agg.2 ⟨_, rfl, hasL_kin ht (hcl.trans hwi.symm) fun j x x' hx hx' t htx => (kin' j x x' hx hx').has t htx⟩
        · exact ht.elim
        · exact ht.elim
      · have hs1 : sz = 1 := by rw [← hwi, hone]; rfl
        obtain ⟨c', rfl⟩ : ∃ c', cs = [c'] := List.length_eq_one_iff.1 (hcl.trans hs1)
        have hk := kin' 0 ds[i] c' (by rw [hone]; rfl) rfl
        have hcc : c'.cells = [c'] := by
          rcases cells_of (d := c') with h | h
          · obtain ⟨l0, hl0⟩ := hk.agg h
            exact absurd hl0 (hna l0)
          · exact h.1
        refine ⟨c', fun d hd => ?_⟩
        rw [hdi] at hd; injection hd with hd; subst hd
        refine ⟨hk.has, by rw [hcc, hs1]; rfl, fun j v c hj hv => ?_⟩
        rw [hcc] at hj
        exact get' j c hj v hv)
    have hlne : l ≠ [] := by intro h; rw [h] at h1; exact hne (List.eq_nil_of_length_eq_zero h1.symm)
    refine ⟨.list l, ?_, fun t ht => ?_, h1, by rintro ⟨l, hl⟩; cases hl⟩
    · rw [← h1]
      refine .list b off cap sz xs' l hsz hlne (by omega) (by rw [hx1, hl, h1]) (fun i hi => hS i (by omega)) (fun i v hv => (hx2 i v hv).1) (fun i d hd => ?_) (fun i d j v c hd hj hv => ?_)
      · have hil : i < ds.length := by rw [← h1]; exact (List.getElem?_eq_some_iff.1 hd).1
        exact (h2 i d hd _ (List.getElem?_eq_getElem hil)).2.1
      · have hil : i < ds.length := by rw [← h1]; exact (List.getElem?_eq_some_iff.1 hd).1
        exact (h2 i d hd _ (List.getElem?_eq_getElem hil)).2.2 j v c hj hv
    · cases t <;> try simp [has_int, has_bool, has_str, has_list, has_agg, has_tup, has_box, has_ptr, has_fn] at ht
      · refine has_list.2 ⟨l, rfl, by rw [h1]; exact ht.1, fun x hx => ?_⟩
        obtain ⟨i, hi⟩ := List.getElem?_of_mem hx
        have hil : i < ds.length := by rw [← h1]; exact (List.getElem?_eq_some_iff.1 hi).1
        exact (h2 i x hi _ (List.getElem?_eq_getElem hil)).1 _ (ht.2 _ (List.getElem_mem hil))
      · exact ht.elim
      · exact ht.elim
end Go.Eng
