/-
  Regions: in the text's order, and in whatever order their edges allow.
-/
import Derived.Test.YtjpkeliliahjoaaEngO
namespace Go.Eng
open Go Go.RowKit

/-- A region's operations one behind the other, from position p0 on; all variables below N. -/
def regEffs (P : Program) (cs : Tbl) (ops : Array Oper) (p0 N : Nat) : List Nat → St → Option (List (Nat × Eff) × St)
  | [], σ => some ([], σ)
  | i :: r, σ =>
    match ops[i]? with
    | some o => match effOpF P cs ops σ (p0 + i) o with
      | some e =>
        if e.ent.2.lt N = true then
          match regEffs P cs ops p0 N r (e.app σ) with
          | some (l, σ') => some ((i, e) :: l, σ')
          | none => none
        else none
      | none => none
    | none => none

inductive Runs (P : Program) (cs : Tbl) (ops : Array Oper) (p0 N : Nat) : List (Nat × Eff) → St → St → Prop
  | nil (σ : St) : Runs P cs ops p0 N [] σ σ
  | cons {i : Nat} {o : Oper} {e : Eff} {r : List (Nat × Eff)} {σ σ' : St} (ho : ops[i]? = some o) (he : ∃ d, effOpD d P cs ops σ (p0 + i) o = some e) (hlt : e.ent.2.lt N = true) (hr : Runs P cs ops p0 N r (e.app σ) σ') :
    Runs P cs ops p0 N ((i, e) :: r) σ σ'

section
variable {P : Program} {cs : Tbl} {ops : Array Oper} {p0 N : Nat}

theorem regEffs_runs : ∀ {l : List Nat} {σ σ' : St} {r : List (Nat × Eff)}, regEffs P cs ops p0 N l σ = some (r, σ') → Runs P cs ops p0 N r σ σ' ∧ r.map (·.1) = l
  | [], σ, σ', r, h => by simp only [regEffs, Option.some.injEq, Prod.mk.injEq] at h; obtain ⟨rfl, rfl⟩ := h; exact ⟨.nil _, rfl⟩
  | i :: l, σ, σ', r, h => by
    simp only [regEffs] at h
    split at h
    · rename_i o ho
      split at h
      · rename_i e he
        split at h
        · rename_i hlt
          split at h
          · rename_i r' σ'' hr
            injection h with h; simp only [Prod.mk.injEq] at h; obtain ⟨rfl, rfl⟩ := h
            obtain ⟨h1, h2⟩ := regEffs_runs hr
            exact ⟨.cons ho ⟨none, he⟩ hlt h1, by simp [h2]⟩
          · cases h
        · cases h
      · cases h
    · cases h

/-- Two effects that may change places. -/
def indep (ops : Array Oper) (x y : Nat × Eff) : Bool :=
  (match ops[x.1]?, ops[y.1]? with
    | some ox, some oy => ox.apart ops oy
    | _, _ => false) &&
  (x.2.dst == ((ops[x.1]?).bind (·.dst))) && (y.2.dst == ((ops[y.1]?).bind (·.dst))) &&
  (x.2.hp.all fun a => (y.2.hp.all fun b => a.1 != b.1) && y.2.rd.all fun b => a.1 != b) && (y.2.hp.all fun b => x.2.rd.all fun a => b.1 != a) &&
  (x.2.live.all fun a => y.2.live.all fun b => a.1 != b.1)

theorem updL_apart {α β : Type} [DecidableEq α] (h : α → β) (l m : List (α × β)) (hd : ∀ a ∈ l, ∀ b ∈ m, a.1 ≠ b.1) : updL (updL h l) m = updL (updL h m) l := by
  funext x
  unfold updL
  cases h1 : lk m x with
  | none => cases h2 : lk l x <;> rfl
  | some v =>
    cases h2 : lk l x with
    | none => rfl
    | some u => exact absurd rfl (hd (x, u) (lk_mem h2) (x, v) (lk_mem h1))

theorem updL_other {α β : Type} [DecidableEq α] (h : α → β) (l : List (α × β)) (x : α) (hd : ∀ a ∈ l, a.1 ≠ x) : updL h l x = h x := by
  unfold updL
  cases h1 : lk l x with
  | none => rfl
  | some v => exact absurd rfl (hd _ (lk_mem h1))

theorem Runs.swap {x y : Nat × Eff} {r : List (Nat × Eff)} {σ σ' : St} (hi : indep ops x y = true) (h : Runs P cs ops p0 N (x :: y :: r) σ σ') : Runs P cs ops p0 N (y :: x :: r) σ σ' := by
  obtain ⟨i, ex⟩ := x
  obtain ⟨j, ey⟩ := y
  cases h with
  | cons hox hex hltx hr =>
    cases hr with
    | cons hoy hey hlty hr =>
      rename_i ox oy
      unfold indep at hi
      simp only [hox, hoy, Option.bind_some, Bool.and_eq_true, beq_iff_eq] at hi
      obtain ⟨⟨⟨⟨⟨hap, hdx⟩, hdy⟩, hhp⟩, hhp2⟩, hlv⟩ := hi
      obtain ⟨a1, a2, a3⟩ := Oper.apart_spec hap
      have hhp' : ∀ a ∈ ex.hp, (∀ b ∈ ey.hp, a.1 ≠ b.1) ∧ ∀ b ∈ ey.rd, a.1 ≠ b := by
        intro a ha
        have := List.all_eq_true.1 hhp a ha
        simp only [Bool.and_eq_true, List.all_eq_true, bne_iff_ne] at this
        exact this
      have hhp2' : ∀ b ∈ ey.hp, ∀ a ∈ ex.rd, b.1 ≠ a := by
        intro b hb a ha
        have := List.all_eq_true.1 (List.all_eq_true.1 hhp2 b hb) a ha
        simpa using this
      have hlv' : ∀ a ∈ ex.live, ∀ b ∈ ey.live, a.1 ≠ b.1 := by
        intro a ha b hb
        have := List.all_eq_true.1 (List.all_eq_true.1 hlv a ha) b hb
        simpa using this
      have tmx : ∀ t, t ∈ oy.looksAt ops → (ex.app σ).tm t = σ.tm t := by
        intro t ht
        unfold Eff.app
        rw [hdx]
        cases hd : ox.dst with
        | none => rfl
        | some d => exact upd_ne _ _ (fun e => a1 d hd (e ▸ ht))
      have tmy : ∀ t, t ∈ ox.looksAt ops → (ey.app σ).tm t = σ.tm t := by
        intro t ht
        unfold Eff.app
        rw [hdy]
        cases hd : oy.dst with
        | none => rfl
        | some d => exact upd_ne _ _ (fun e => a3 d hd (e ▸ ht))
      obtain ⟨dy, hey⟩ := hey
      obtain ⟨dx, hex⟩ := hex
      have hy : effOpD dy P cs ops σ (p0 + j) oy = some ey := effOpD_congr hey (fun t ht => (tmx t ht).symm)
        (fun id hid => (updL_other _ _ _ (fun a ha => (hhp' a ha).2 id hid)).symm) (fun z hz => (updL_other _ _ _ (fun a ha => hlv' a ha z hz)).symm)
      have hx : effOpD dx P cs ops (ey.app σ) (p0 + i) ox = some ex := effOpD_congr hex tmy
        (fun id hid => updL_other _ _ _ (fun b hb => hhp2' b hb id hid)) (fun z hz => updL_other _ _ _ (fun b hb => (hlv' z hz b hb).symm))
      have hcomm : ex.app (ey.app σ) = ey.app (ex.app σ) := by
        unfold Eff.app
        rw [hdx, hdy]
        simp only [St.mk.injEq]
        refine ⟨?_, updL_apart _ _ _ (fun b hb a ha => ((hhp' a ha).1 b hb).symm), updL_apart _ _ _ (fun b hb a ha => (hlv' a ha b hb).symm)⟩
        cases hd : ox.dst with
        | none => rfl
        | some d =>
          cases hd' : oy.dst with
          | none => rfl
          | some d' =>
            have hne : d ≠ d' := fun e => a2 d hd (e ▸ hd')
            funext t
            simp only [upd]
            by_cases h1 : t = d
            · subst h1; simp [hne]
            · simp [h1]
      exact .cons hoy ⟨dy, hy⟩ hlty (.cons hox ⟨dx, hx⟩ hltx (hcomm ▸ hr))

theorem Runs.pull {x : Nat × Eff} : ∀ {l r : List (Nat × Eff)} {σ σ' : St}, (∀ y ∈ l, indep ops y x = true) → Runs P cs ops p0 N (l ++ x :: r) σ σ' → Runs P cs ops p0 N (x :: (l ++ r)) σ σ'
  | [], _, _, _, _, h => h
  | y :: l, r, σ, σ', hi, h => by
    cases h with
    | cons ho he hlt hr =>
      have ih := Runs.pull (l := l) (fun z hz => hi z (List.mem_cons_of_mem _ hz)) hr
      exact Runs.swap (hi _ (List.mem_cons_self ..)) (.cons ho he hlt ih)

variable {C : Cx} {G : Gh} {w w0 : World} {S0 : Base} {σ : St} {a : Act} {n : Nat} {Φ : Nat → List D → D} {Pre : Nat → List D → Prop}

theorem Later.moreM (C : Cx) (w : World) (G : Gh) {M' : Nat → Prop} (h : ∀ i, C.M i → M' i) : Later C w G { C with M := M' } w G :=
  ⟨fun _ h => ⟨rfl, h⟩, h, fun _ _ h => h, fun _ _ _ => rfl, fun _ _ => rfl, fun _ _ => rfl⟩

theorem SimM.later_same {C' : Cx} (h : SimM w0 S0 C G σ w) (hlat : Later C w G C' w G) : SimM w0 S0 C' G σ w where
  below := h.below
  foot0 := h.foot0
  keep := h.keep
  pin i b hi := ⟨hlat.M _ (h.pin i b hi).1, (h.pin i b hi).2⟩
  pinmu := h.pinmu
  footlt := h.footlt
  footnew := h.footnew
  boxM id x hx := hlat.M _ (h.boxM id x hx)
  box id ro cs hx := by
    obtain ⟨h1, h2, ⟨vs, T, h3, h4⟩, h5⟩ := h.box id ro cs hx
    exact ⟨h1, h2, ⟨vs, T, h3, h4.later hlat⟩, h5⟩
  inj := h.inj
  own g e T t hx := (h.own g e T t hx).later hlat (fun _ _ => rfl) (fun _ _ _ h => h)
  ownnew := h.ownnew
  ownne := h.ownne
  ownbox := h.ownbox
  fresh := h.fresh
  wz := h.wz

theorem Sim.later_same {C' : Cx} (h : Sim n w0 S0 C G σ a w) (hlat : Later C w G C' w G) : Sim n w0 S0 C' G σ a w :=
  ⟨h.m.later_same hlat, h.t.later hlat, h.sz, h.defers⟩

/-- What every operation of a run needs. -/
structure RunOk (P : Program) (cs : Tbl) (ops : Array Oper) (p0 n : Nat) (S0 : Base) (C : Cx) (Φ : Nat → List D → D) (Pre : Nat → List D → Prop) (r : List (Nat × Eff)) : Prop where
  con : ∀ k sig, lk cs.l k = some sig → PureFn P k sig (Pre k) (Φ k)
  items : ∀ x ∈ r, ∀ it ∈ x.2.items, ItemOk C Φ Pre it
  pos : ∀ x ∈ r, p0 + x.1 < C.N
  dst : ∀ (i : Nat) o d, ops[i]? = some o → o.dst = some d → d < n
  fr : (S0.fr → cs.fr = 1) ∧ (S0.wz → cs.fr = 2)

theorem RunOk.tail {x : Nat × Eff} {r : List (Nat × Eff)} (h : RunOk P cs ops p0 n S0 C Φ Pre (x :: r)) : RunOk P cs ops p0 n S0 C Φ Pre r :=
  ⟨h.con, fun y hy => h.items y (List.mem_cons_of_mem _ hy), fun y hy => h.pos y (List.mem_cons_of_mem _ hy), h.dst, h.fr⟩

theorem ItemOk.add {p : Nat} {it : Item} (h : ItemOk C Φ Pre it) : ItemOk (C.add p) Φ Pre it := by cases it <;> exact h
theorem RunOk.add {p : Nat} {r : List (Nat × Eff)} (h : RunOk P cs ops p0 n S0 C Φ Pre r) : RunOk P cs ops p0 n S0 (C.add p) Φ Pre r :=
  ⟨h.con, fun x hx it hit => (h.items x hx it hit).add, h.pos, h.dst, h.fr⟩

/-- A region in the text's order. -/
theorem wpOps_runs {Q : Exit → Act → World → Prop} : ∀ {r : List (Nat × Eff)} {σ σ' : St} {C : Cx} {G : Gh} {a : Act} {w : World}, Runs P cs ops p0 C.N r σ σ' → RunOk P cs ops p0 n S0 C Φ Pre r → Sim n w0 S0 C G σ a w →
    (r.map (·.1)).Nodup → (∀ x ∈ r, ¬ C.M (p0 + x.1)) →
    (∀ a' w' G' M', (∀ i, M' i → C.M i ∨ ∃ x ∈ r, i = p0 + x.1) → Sim n w0 S0 { C with M := M' } G' σ' a' w' → Q .normal a' w') → wpOps P ops Q (r.map (·.1)) a w
  | [], σ, σ', C, G, a, w, h, _, hs, _, _, hQ => by
    cases h
    exact hQ a w G C.M (fun i hi => .inl hi) hs
  | (i, e) :: r, σ, σ', C, G, a, w, h, hok, hs, hnd, hM, hQ => by
    cases h with
    | cons ho he hlt hr =>
      rename_i o
      simp only [List.map_cons, List.nodup_cons] at hnd
      have hp : ¬ C.M (p0 + i) := hM (i, e) (List.mem_cons_self ..)
      have hstep := effOpD_ok hs he.choose_spec hp (hok.pos (i, e) (List.mem_cons_self ..)) hok.con hlt (hok.items (i, e) (List.mem_cons_self ..)) (fun d hd => hok.dst i o d ho hd) hok.fr
      have hnext : ∀ a' w' G', Sim n w0 S0 (C.add (p0 + i)) G' (e.app σ) a' w' → wpOps P ops Q (r.map (·.1)) a' w' := by
        intro a' w' G' hs'
        refine wpOps_runs (C := C.add (p0 + i)) hr hok.tail.add hs' hnd.2 ?_ ?_
        · rintro x hx (hm | hm)
          · exact hM x (List.mem_cons_of_mem _ hx) hm
          · have : x.1 = i := by omega
            exact hnd.1 (List.mem_map.2 ⟨x, hx, this⟩)
        · intro a'' w'' G'' M' hM' hs''
          refine hQ a'' w'' G'' M' (fun j hj => ?_) hs''
          rcases hM' j hj with (h1 | h1) | ⟨x, hx, h1⟩
          · exact .inl h1
          · exact .inr ⟨(i, e), List.mem_cons_self .., h1⟩
          · exact .inr ⟨x, List.mem_cons_of_mem _ hx, h1⟩
      have hthis := hstep (wpOps P ops Q (r.map (·.1))) Q hnext
      simp only [List.map_cons, wpOps, ho]
      split
      · rename_i hw; rw [if_pos hw] at hthis; exact .inl hthis
      · rename_i hw; rw [if_neg hw] at hthis; exact hthis

/-- A piece of a region in the text's order. -/
theorem wpOps_runs_rest {Q : Exit → Act → World → Prop} (rest : List Nat) : ∀ {r : List (Nat × Eff)} {σ σ' : St} {C : Cx} {G : Gh} {a : Act} {w : World}, Runs P cs ops p0 C.N r σ σ' → RunOk P cs ops p0 n S0 C Φ Pre r → Sim n w0 S0 C G σ a w →
    (r.map (·.1)).Nodup → (∀ x ∈ r, ¬ C.M (p0 + x.1)) →
    (∀ a' w' G' M', (∀ i, M' i → C.M i ∨ ∃ x ∈ r, i = p0 + x.1) → Sim n w0 S0 { C with M := M' } G' σ' a' w' → wpOps P ops Q rest a' w') → wpOps P ops Q (r.map (·.1) ++ rest) a w
  | [], σ, σ', C, G, a, w, h, _, hs, _, _, hQ => by
    cases h
    exact hQ a w G C.M (fun i hi => .inl hi) hs
  | (i, e) :: r, σ, σ', C, G, a, w, h, hok, hs, hnd, hM, hQ => by
    cases h with
    | cons ho he hlt hr =>
      rename_i o
      simp only [List.map_cons, List.nodup_cons] at hnd
      have hp : ¬ C.M (p0 + i) := hM (i, e) (List.mem_cons_self ..)
      have hstep := effOpD_ok hs he.choose_spec hp (hok.pos (i, e) (List.mem_cons_self ..)) hok.con hlt (hok.items (i, e) (List.mem_cons_self ..)) (fun d hd => hok.dst i o d ho hd) hok.fr
      have hnext : ∀ a' w' G', Sim n w0 S0 (C.add (p0 + i)) G' (e.app σ) a' w' → wpOps P ops Q (r.map (·.1) ++ rest) a' w' := by
        intro a' w' G' hs'
        refine wpOps_runs_rest rest (C := C.add (p0 + i)) hr hok.tail.add hs' hnd.2 ?_ ?_
        · rintro x hx (hm | hm)
          · exact hM x (List.mem_cons_of_mem _ hx) hm
          · have : x.1 = i := by omega
            exact hnd.1 (List.mem_map.2 ⟨x, hx, this⟩)
        · intro a'' w'' G'' M' hM' hs''
          refine hQ a'' w'' G'' M' (fun j hj => ?_) hs''
          rcases hM' j hj with (h1 | h1) | ⟨x, hx, h1⟩
          · exact .inl h1
          · exact .inr ⟨(i, e), List.mem_cons_self .., h1⟩
          · exact .inr ⟨x, List.mem_cons_of_mem _ hx, h1⟩
      have hthis := hstep (wpOps P ops Q (r.map (·.1) ++ rest)) Q hnext
      simp only [List.map_cons, List.cons_append, wpOps, ho]
      split
      · rename_i hw; rw [if_pos hw] at hthis; exact .inl hthis
      · rename_i hw; rw [if_neg hw] at hthis; exact hthis

/-- i is forced ahead of j by edges that bind always. -/
def fwd (ops : Array Oper) (i : Nat) : Nat → Nat → List Nat → List Nat
  | 0, _, acc => acc
  | n + 1, j, acc => match ops[j]? with
    | some o => if o.after.any fun e => Region.binds .any e && (e.on == i || acc.contains e.on) then fwd ops i n (j + 1) (j :: acc) else fwd ops i n (j + 1) acc
    | none => acc
def ordB (ops : Array Oper) (_ : Nat) (i j : Nat) : Bool := (fwd ops i (ops.size - i) i []).contains j

/-- All that may change places do no harm. -/
def drawOk (ops : Array Oper) : List (Nat × Eff) → Bool
  | [] => true
  | x :: r => (r.all fun y => indep ops x y || ordB ops ops.size x.1 y.1) && drawOk ops r

def Closed (ops : Array Oper) (listed : Array Bool) : Prop :=
  ∀ (j : Nat) o, ops[j]? = some o → listed.getD j false = true → ∀ e ∈ o.after, Region.binds .any e = true → listed.getD e.on false = true

theorem fwd_listed {i : Nat} : ∀ (n j : Nat) (acc : List Nat), (∀ k ∈ acc, ∀ listed : Array Bool, Closed ops listed → (∀ o, ops[k]? = some o → ∀ e ∈ o.after, Region.binds .any e = true → listed.getD e.on false = true) → listed.getD i false = true) →
    ∀ k ∈ fwd ops i n j acc, ∀ listed : Array Bool, Closed ops listed → (∀ o, ops[k]? = some o → ∀ e ∈ o.after, Region.binds .any e = true → listed.getD e.on false = true) → listed.getD i false = true
  | 0, _, _, h => h
  | n + 1, j, acc, h => by
    unfold fwd
    split
    · rename_i o ho
      split
      · rename_i hc
        refine fwd_listed n (j + 1) (j :: acc) ?_
        intro k hk
        rcases List.mem_cons.1 hk with rfl | hk
        · intro listed hcl hpre
          obtain ⟨e, he, hb⟩ := Array.any_eq_true'.1 hc
          simp only [Bool.and_eq_true, Bool.or_eq_true, beq_iff_eq] at hb
          obtain ⟨hb1, hb2⟩ := hb
          have hl := hpre o ho e he hb1
          rcases hb2 with rfl | hb2
          · exact hl
          · exact h e.on (by simpa using hb2) listed hcl (fun o' ho' e' he' hb' => hcl e.on o' ho' hl e' he' hb')
        · exact h k hk
      · exact fwd_listed n (j + 1) acc h
    · exact h
theorem ord_listed {listed : Array Bool} (hcl : Closed ops listed) (f i j : Nat) (h : ordB ops f i j = true) (hpre : ∀ o, ops[j]? = some o → ∀ e ∈ o.after, Region.binds .any e = true → listed.getD e.on false = true) : listed.getD i false = true :=
  fwd_listed _ _ [] (by simp) j (by simpa [ordB] using h) listed hcl hpre

theorem drawOk_pair : ∀ {l r : List (Nat × Eff)} {x : Nat × Eff}, drawOk ops (l ++ x :: r) = true → ∀ y ∈ l, indep ops y x = true ∨ ordB ops ops.size y.1 x.1 = true
  | [], _, _, _, y, hy => by simp at hy
  | z :: l, r, x, h, y, hy => by
    simp only [List.cons_append, drawOk, Bool.and_eq_true] at h
    rcases List.mem_cons.1 hy with rfl | hy
    · have := List.all_eq_true.1 h.1 x (by simp)
      simpa using this
    · exact drawOk_pair h.2 y hy

theorem drawOk_drop : ∀ {l r : List (Nat × Eff)} {x : Nat × Eff}, drawOk ops (l ++ x :: r) = true → drawOk ops (l ++ r) = true
  | [], r, x, h => by simp only [List.nil_append, drawOk, Bool.and_eq_true] at h; exact h.2
  | z :: l, r, x, h => by
    simp only [List.cons_append, drawOk, Bool.and_eq_true] at h ⊢
    refine ⟨?_, drawOk_drop h.2⟩
    rw [List.all_eq_true] at h ⊢
    intro y hy
    exact h.1 y (by rcases List.mem_append.1 hy with h | h <;> simp [h])

/-- A region in whatever order its edges allow. -/
theorem wpAny_runs {Q : Exit → Act → World → Prop} : ∀ (fuel : Nat) {r : List (Nat × Eff)} {σ σ' : St} {C : Cx} {G : Gh} {a : Act} {w : World} {listed : Array Bool}, Runs P cs ops p0 C.N r σ σ' → RunOk P cs ops p0 n S0 C Φ Pre r → Sim n w0 S0 C G σ a w →
    (r.map (·.1)).Nodup → (∀ x ∈ r, ¬ C.M (p0 + x.1)) → drawOk ops r = true → listed.size = ops.size → Closed ops listed → r.length ≤ fuel → (∀ i, i < ops.size → (listed.getD i false = false ↔ i ∈ r.map (·.1))) →
    (∀ x ∈ r, x.1 < ops.size) → (r ≠ [] → Region.ready .any ops listed ≠ []) →
    (∀ (listed' : Array Bool) (r' : List (Nat × Eff)), listed'.size = ops.size → Closed ops listed' → (∀ i, i < ops.size → (listed'.getD i false = false ↔ i ∈ r'.map (·.1))) → r' ≠ [] → (∀ x ∈ r', x.1 < ops.size) → Region.ready .any ops listed' ≠ []) →
    (∀ a' w' G' M', (∀ i, M' i → C.M i ∨ ∃ x ∈ r, i = p0 + x.1) → Sim n w0 S0 { C with M := M' } G' σ' a' w' → Q .normal a' w') → wpAny P .any ops Q fuel listed a w := by
  intro fuel
  induction fuel with
  | zero =>
    intro r σ σ' C G a w listed h hok hs hnd hM hdraw hsz hcl hfuel hlist hlt hready hsome hQ
    have hr : r = [] := List.eq_nil_of_length_eq_zero (by omega)
    subst hr
    cases h
    refine ⟨?_, hQ a w G C.M (fun i hi => .inl hi) hs⟩
    rw [List.eq_nil_iff_forall_not_mem]
    intro j hj
    obtain ⟨h0, o, ho, _⟩ := mem_ready.1 hj
    have hjl : j < ops.size := (Array.getElem?_eq_some_iff.1 ho).1
    have h1 : listed.getD j false = false := by
      have hj' : j < listed.size := by omega
      simp [hj'] at h0 ⊢; exact h0
    have := (hlist j hjl).1 h1
    simp at this
  | succ fuel ih =>
    intro r σ σ' C G a w listed h hok hs hnd hM hdraw hsz hcl hfuel hlist hlt hready hsome hQ
    refine ⟨fun h0 => ?_, fun i hi => ?_⟩
    · by_cases hr : r = []
      · subst hr; cases h; exact hQ a w G C.M (fun i hi => .inl hi) hs
      · exact absurd h0 (hready hr)
    · obtain ⟨h0, o, ho, hpre⟩ := mem_ready.1 hi
      have hil : i < ops.size := (Array.getElem?_eq_some_iff.1 ho).1
      have h1 : listed.getD i false = false := by
        have hj' : i < listed.size := by omega
        simp [hj'] at h0 ⊢; exact h0
      have hmem := (hlist i hil).1 h1
      obtain ⟨x, hx, hxi⟩ := List.mem_map.1 hmem
      obtain ⟨l, r2, hr⟩ := List.append_of_mem hx
      subst hr
      have hind : ∀ y ∈ l, indep ops y x = true := by
        intro y hy
        rcases drawOk_pair hdraw y hy with h | h
        · exact h
        · exfalso
          rw [hxi] at h
          have hyl := ord_listed hcl _ _ _ h (fun o' ho' => by rw [ho] at ho'; injection ho' with ho'; subst ho'; exact hpre)
          have hy1 := hlt y (by simp [hy])
          have := (hlist y.1 hy1).2 (List.mem_map.2 ⟨y, by simp [hy], rfl⟩)
          rw [hyl] at this; cases this
      have hpull := Runs.pull hind h
      obtain ⟨xi, e⟩ := x
      simp only at hxi
      subst hxi
      have hsub : ∀ y ∈ l ++ r2, y ∈ l ++ (xi, e) :: r2 := by
        intro y hy; rcases List.mem_append.1 hy with h | h <;> simp [h]
      have hnd' : xi ∉ (l ++ r2).map (·.1) ∧ ((l ++ r2).map (·.1)).Nodup := by
        have : (((xi, e) :: (l ++ r2)).map (·.1)).Nodup := by
          refine (List.Perm.nodup_iff ?_).1 hnd
          exact (List.perm_middle).map _
        simpa using this
      cases hpull with
      | cons ho' he hlt' hr' =>
        rename_i o'
        rw [ho] at ho'; injection ho' with ho'; subst ho'
        have hp : ¬ C.M (p0 + xi) := hM (xi, e) (by simp)
        have hok' : RunOk P cs ops p0 n S0 C Φ Pre (l ++ r2) := ⟨hok.con, fun y hy => hok.items y (hsub y hy), fun y hy => hok.pos y (hsub y hy), hok.dst, hok.fr⟩
        have hstep := effOpD_ok hs he.choose_spec hp (hok.pos (xi, e) (by simp)) hok.con hlt' (hok.items (xi, e) (by simp)) (fun d hd => hok.dst xi o d ho hd) hok.fr
        have hsz' : (listed.setIfInBounds xi true).size = ops.size := by simp [hsz]
        have hget : ∀ j, j < ops.size → (listed.setIfInBounds xi true).getD j false = (if j = xi then true else listed.getD j false) := by
          intro j hj
          by_cases hjx : j = xi
          · subst hjx
            have : j < listed.size := by omega
            simp [this]
          · rw [if_neg hjx]; exact getD_set_ne false (Ne.symm hjx)
        have hcl' : Closed ops (listed.setIfInBounds xi true) := by
          intro j o' hoj hj e' he' hb'
          have hjl : j < ops.size := (Array.getElem?_eq_some_iff.1 hoj).1
          rw [hget j hjl] at hj
          by_cases hjx : j = xi
          · subst hjx
            rw [ho] at hoj; injection hoj with hoj; subst hoj
            exact getD_set_true (hpre e' he' hb')
          · rw [if_neg hjx] at hj
            exact getD_set_true (hcl j o' hoj hj e' he' hb')
        have hlist' : ∀ j, j < ops.size → ((listed.setIfInBounds xi true).getD j false = false ↔ j ∈ (l ++ r2).map (·.1)) := by
          intro j hj
          rw [hget j hj]
          by_cases hjx : j = xi
          · subst hjx
            simp only [if_true]
            exact ⟨fun h => (by cases h), fun h => absurd h hnd'.1⟩
          · rw [if_neg hjx, hlist j hj]
            simp [hjx]
        have hlt2 : ∀ y ∈ l ++ r2, y.1 < ops.size := fun y hy => hlt y (hsub y hy)
        have hnext : ∀ a' w' G', Sim n w0 S0 (C.add (p0 + xi)) G' (e.app σ) a' w' → wpAny P .any ops Q fuel (listed.setIfInBounds xi true) a' w' := by
          intro a' w' G' hs'
          refine ih (C := C.add (p0 + xi)) hr' hok'.add hs' hnd'.2 ?_ (drawOk_drop hdraw) hsz' hcl' (by simp at hfuel ⊢; omega) hlist' hlt2 (fun hne => hsome _ _ hsz' hcl' hlist' hne hlt2) hsome ?_
          · rintro y hy (hm | hm)
            · exact hM y (hsub y hy) hm
            · have : y.1 = xi := by omega
              exact hnd'.1 (List.mem_map.2 ⟨y, hy, this⟩)
          · intro a'' w'' G'' M' hM' hs''
            refine hQ a'' w'' G'' M' (fun j hj => ?_) hs''
            rcases hM' j hj with (h1 | h1) | ⟨y, hy, h1⟩
            · exact .inl h1
            · exact .inr ⟨(xi, e), by simp, h1⟩
            · exact .inr ⟨y, hsub y hy, h1⟩
        have hthis := hstep (wpAny P .any ops Q fuel (listed.setIfInBounds xi true)) Q hnext
        unfold wpOp
        simp only [ho]
        split
        · rename_i hw; rw [if_pos hw] at hthis; exact .inl hthis
        · rename_i hw; rw [if_neg hw] at hthis; exact hthis

/-- Edges that bind always lead back. -/
def backB (ops : Array Oper) : Bool := (List.range ops.size).all fun i => match ops[i]? with
  | some o => o.after.all fun e => !Region.binds .any e || decide (e.on < i)
  | none => true

theorem back_ready (hb : backB ops = true) {listed : Array Bool} (hsz : listed.size = ops.size) {r : List Nat} (hlist : ∀ i, i < ops.size → (listed.getD i false = false ↔ i ∈ r)) (hr : r ≠ []) (hlt : ∀ x ∈ r, x < ops.size) : Region.ready .any ops listed ≠ [] := by
  -- the least that is not listed is ready
  obtain ⟨m, hm, hmin⟩ : ∃ m, m ∈ r ∧ ∀ j, j < m → j ∉ r := by
    cases r with
    | nil => exact absurd rfl hr
    | cons x r =>
      have : ∃ m, m ∈ (x :: r) := ⟨x, by simp⟩
      have key : ∀ k, (∃ m ∈ (x :: r), m ≤ k) → ∃ m, m ∈ (x :: r) ∧ ∀ j, j < m → j ∉ (x :: r) := by
        intro k
        induction k with
        | zero => rintro ⟨m, hm, hk⟩; exact ⟨m, hm, fun j hj => by omega⟩
        | succ k ih =>
          rintro ⟨m, hm, hk⟩
          by_cases h : ∃ m ∈ (x :: r), m ≤ k
          · exact ih h
          · refine ⟨m, hm, fun j hj hjr => h ⟨j, hjr, by omega⟩⟩
      exact key x ⟨x, by simp, Nat.le_refl _⟩
  have hml := hlt m hm
  have : m ∈ Region.ready .any ops listed := by
    rw [mem_ready]
    have h1 := (hlist m hml).2 hm
    have hml' : m < listed.size := by omega
    refine ⟨by simp [hml'] at h1 ⊢; exact h1, ops[m], by simp [hml], fun e he hbd => ?_⟩
    have := List.all_eq_true.1 hb m (List.mem_range.2 hml)
    simp only [Array.getElem?_eq_getElem hml] at this
    have := (Array.all_eq_true_iff_forall_mem.1 this) e he
    simp only [hbd, Bool.not_true, Bool.false_or, decide_eq_true_eq] at this
    have h2 : listed.getD e.on false ≠ false := fun h => hmin e.on this ((hlist e.on (by omega)).1 h)
    simpa using h2
  intro h
  rw [h] at this; cases this

end
end Go.Eng
