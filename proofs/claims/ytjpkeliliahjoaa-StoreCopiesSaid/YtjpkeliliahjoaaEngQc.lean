/-
  The state behind a write into what readings lean on.
-/
import Derived.Test.YtjpkeliliahjoaaEngQb
namespace Go.Eng
open Go Go.RowKit

def Ty.isSc : Ty → Bool
  | .int _ | .bool => true
  | _ => false
/-- A store of a number or a truth into an element of a slice that is read. -/
def hvOp (P : Program) (σ : St) (o : Oper) : Bool :=
  match o.guard, o.op with
  | none, .store t x y =>
    match getV P σ [] x t, getD_ P σ [] y t, sizeT P t with
    | some (.one (.eadr _ _ u off)), some (_, ty), some 1 => o.dst.isNone && decide (u.cells[off]? = some ty) && ty.isSc
    | _, _, _ => false
  | _, _ => false
def hvable : SC → Bool
  | .dat .. | .nils _ | .own .. | .clip .. | .adr .. => true
  | _ => false
def hvPath (id p j : Nat) : E := .un (.cell j) (.un (.cell id) (.var p))
def hvSC (e' : E) : SC → SC
  | .dat e t => if t.bare then .dat e t else .dat e' t
  | .own _ _ t => .dat e' (.list t)
  | .clip _ t => .dat e' (.list t)
  | c => c
def hvCells (id p : Nat) : Nat → List SC → List SC
  | _, [] => []
  | j, c :: r => hvSC (hvPath id p j) c :: hvCells id p (j + 1) r
def hvTm (tm : Nat → Option (Cond × SV)) (t : Nat) : Option (Cond × SV) :=
  match tm t with
  | some (c, .one (.dat e ty)) => if ty.bare then some (c, .one (.dat e ty)) else none
  | some (c, .one (.adr id off)) => some (c, .one (.adr id off))
  | some (c, .one (.nils ty)) => some (c, .one (.nils ty))
  | _ => none
def hvHp (hp : Nat → Option (Bool × List SC)) (p id : Nat) : Option (Bool × List SC) :=
  match hp id with
  | some (false, cs) => if cs.all hvable then some (false, hvCells id p 0 cs) else none
  | _ => none
def hvSt (σ : St) (p : Nat) : St := ⟨hvTm σ.tm, hvHp σ.hp p, fun _ => none⟩
def hvFactsC (id p : Nat) : Nat → List SC → List (E × E)
  | _, [] => []
  | j, c :: r => (match asData c with | some (e, .list _) => [(hvPath id p j, e)] | _ => []) ++ hvFactsC id p (j + 1) r
/-- What is as long as it was. -/
def hvFacts (σ : St) (p : Nat) : List (E × E) := (List.range p).flatMap fun id => match σ.hp id with
  | some (false, cs) => hvFactsC id p 0 cs
  | _ => []

theorem hvCells_get (id p : Nat) : ∀ (l : List SC) (j i : Nat), (hvCells id p j l)[i]? = (l[i]?).map fun c => hvSC (hvPath id p (j + i)) c
  | [], j, i => by simp [hvCells]
  | c :: l, j, 0 => by simp [hvCells]
  | c :: l, j, i + 1 => by simp only [hvCells, List.getElem?_cons_succ, hvCells_get id p l (j + 1) i]; congr 2; funext t; congr 2; omega
theorem hvCells_len (id p : Nat) : ∀ (l : List SC) (j : Nat), (hvCells id p j l).length = l.length
  | [], _ => rfl
  | _ :: l, j => by simp [hvCells, hvCells_len id p l]
theorem hvFactsC_mem {id p : Nat} {y : E × E} : ∀ {l : List SC} {j : Nat}, y ∈ hvFactsC id p j l → ∃ (i : Nat) (c : SC) (t : Ty), l[i]? = some c ∧ asData c = some (y.2, .list t) ∧ y.1 = hvPath id p (j + i)
  | c :: l, j, h => by
    simp only [hvFactsC] at h
    rcases List.mem_append.1 h with h | h
    · split at h
      · rename_i e t hd
        simp only [List.mem_singleton] at h
        subst h
        exact ⟨0, c, t, rfl, hd, rfl⟩
      · simp at h
    · obtain ⟨i, c', t, h1, h2, h3⟩ := hvFactsC_mem h
      exact ⟨i + 1, c', t, by simpa using h1, h2, by rw [h3]; congr 1; omega⟩

section
variable {P : Program} {w w0 : World} {S0 : Base} {ρ : Nat → D} {p : Nat} {G : Gh} {σ : St} {a : Act} {n : Nat}

theorem hvSC_scalar {e' : E} {c : SC} (h : c.scalar = true) : (hvSC e' c).scalar = true := by
  cases c <;> simp only [hvSC] <;> first
    | (split <;> exact h)
    | rfl
    | exact h

theorem Sim.havoc (hs : Sim n w0 S0 ⟨ρ, p, fun i => i < p⟩ G σ a w) (hfoot : ∀ b o, ¬ S0.foot b o) (hnf : ¬ S0.fr) {w' : World} {b : Nat} (hos : w'.os = w.os ∧ w'.tape = w.tape ∧ w'.output = w.output) (hsz : w'.heap.size = w.heap.size)
    (hother : ∀ k, k ≠ b → w'.heap[k]? = w.heap[k]?) (hb : ∃ o, G.S b o) (hrow : ∃ cur T, w'.heap[b]? = some (.cells cur T (0, 0)))
    (hcls : ∀ o v, w.cell? ⟨b, o, none⟩ = some v → ∃ v', w'.cell? ⟨b, o, none⟩ = some v' ∧ Cls v v') :
    ∃ x, (∀ y ∈ hvFacts σ p, (den (upd ρ p x) y.1).toL.length = (den (upd ρ p x) y.2).toL.length) ∧ Sim n w0 S0 ⟨upd ρ p x, p + 1, fun i => i < p + 1⟩ G (hvSt σ p) a w' := by
  obtain ⟨ob, hob⟩ := hb
  have hcAll : ∀ b' o v, G.S b' o → w.cell? ⟨b', o, none⟩ = some v → ∃ v', w'.cell? ⟨b', o, none⟩ = some v' ∧ Cls v v' := by
    intro b' o v _ hv
    by_cases hbb : b' = b
    · subst hbb; exact hcls o v hv
    · exact ⟨v, by rw [cell_heap (hother b' hbb)]; exact hv, .inl rfl⟩
  have hdd : ∀ (id j : Nat), ∃ d', ∀ (cs : List SC) (vs : List Value) (T : TypeId) (c : SC) (v : Value) (e : E) (t : Ty), σ.hp id = some (false, cs) → w.heap[G.β id]? = some (.cells (List.toArray vs) T (0, 0)) → cs[j]? = some c → vs[j]? = some v → asData c = some (e, t) →
      e.lt p = true ∧ Has t (den ρ e) ∧ Rep w' G.S v d' ∧ Kin (den ρ e) d' := by
    intro id j
    by_cases h : ∃ (cs : List SC) (vs : List Value) (T : TypeId) (c : SC) (v : Value) (e : E) (t : Ty), σ.hp id = some (false, cs) ∧ w.heap[G.β id]? = some (.cells (List.toArray vs) T (0, 0)) ∧ cs[j]? = some c ∧ vs[j]? = some v ∧ asData c = some (e, t)
    · obtain ⟨cs, vs, T, c, v, e, t, h1, h2, h3, h4, h5⟩ := h
      obtain ⟨_, _, ⟨vs', T', hg, hr⟩, _⟩ := hs.m.box id false cs h1
      rw [h2] at hg
      injection hg with hg
      injection hg with hg1 hg2 _
      obtain rfl : vs = vs' := congrArg Array.toList hg1
      obtain ⟨k1, k2, k3⟩ := asData_ok h5 (hr.2 j c v h3 h4)
      obtain ⟨d', q1, q2⟩ := Rep.hv hcAll k2
      refine ⟨d', fun cs2 vs2 T2 c2 v2 e2 t2 g1 g2 g3 g4 g5 => ?_⟩
      rw [h1] at g1; injection g1 with g1; simp only [Prod.mk.injEq, true_and] at g1; subst g1
      rw [h2] at g2
      injection g2 with g2
      injection g2 with g21 g22 _
      obtain rfl : vs = vs2 := congrArg Array.toList g21
      rw [h3] at g3; injection g3 with g3; subst g3
      rw [h4] at g4; injection g4 with g4; subst g4
      rw [h5] at g5; injection g5 with g5; simp only [Prod.mk.injEq] at g5; obtain ⟨rfl, rfl⟩ := g5
      exact ⟨k1, k3, q1, q2⟩
    · exact ⟨.top, fun cs vs T c v e t h1 h2 h3 h4 h5 => absurd ⟨cs, vs, T, c, v, e, t, h1, h2, h3, h4, h5⟩ h⟩
  obtain ⟨dd, hdd⟩ : ∃ dd : Nat → Nat → D, ∀ (id j : Nat), ∀ (cs : List SC) (vs : List Value) (T : TypeId) (c : SC) (v : Value) (e : E) (t : Ty), σ.hp id = some (false, cs) → w.heap[G.β id]? = some (.cells (List.toArray vs) T (0, 0)) → cs[j]? = some c → vs[j]? = some v → asData c = some (e, t) →
      e.lt p = true ∧ Has t (den ρ e) ∧ Rep w' G.S v (dd id j) ∧ Kin (den ρ e) (dd id j) :=
    ⟨fun id j => Classical.choose (hdd id j), fun id j => Classical.choose_spec (hdd id j)⟩
  obtain ⟨ln, hln⟩ : ∃ ln : Nat → Nat, ∀ id cs, σ.hp id = some (false, cs) → ln id = cs.length := by
    refine ⟨fun id => match σ.hp id with | some (_, cs) => cs.length | none => 0, fun id cs h => ?_⟩
    simp only [h]
  obtain ⟨x, hx⟩ : ∃ x, ∀ id j, id < p → j < ln id → den (upd ρ p x) (hvPath id p j) = dd id j := by
    refine ⟨.agg ((List.range p).map fun id => .agg ((List.range (ln id)).map (dd id))), fun id j hid hj => ?_⟩
    have e1 : ∀ (d : D), den (upd ρ p d) (hvPath id p j) = ((d.toL.getD id .top).toL.getD j .top) := by
      intro d; show (U.cell j).den ((U.cell id).den (upd ρ p d p)) = _; rw [upd_same]; rfl
    rw [e1]
    simp [D.toL, List.getD, hid, hj]
  have hag : ∀ i, i < p → (upd ρ p x) i = ρ i := fun i hi => upd_ne _ _ (by omega)
  have hpl : ∀ id j, (hvPath id p j).lt (p + 1) = true := fun id j => by simp [hvPath, E.lt]
  have hidp : ∀ id cs, σ.hp id = some (false, cs) → id < p := fun id cs h => hs.m.boxM id _ h
  refine ⟨x, ?_, ?_⟩
  · intro y hy
    obtain ⟨id, hid, hy⟩ := List.mem_flatMap.1 hy
    split at hy
    · rename_i cs hcs
      obtain ⟨i, c, t, h1, h2, h3⟩ := hvFactsC_mem hy
      obtain ⟨_, _, ⟨vs, T, hg, hr⟩, _⟩ := hs.m.box id false cs hcs
      have hil : i < cs.length := (List.getElem?_eq_some_iff.1 h1).1
      have hvi : vs[i]? = some (vs[i]'(by rw [hr.1]; exact hil)) := List.getElem?_eq_getElem _
      obtain ⟨k1, k2, k3, k4⟩ := hdd id i cs vs T c _ _ _ hcs hg h1 hvi h2
      rw [h3, Nat.zero_add, hx id i (hidp id cs hcs) (by rw [hln id cs hcs]; exact hil), den_agree hag k1]
      exact k4.len
    · simp at hy
  · have hbN : NewB w0 S0 b := (hs.m.footnew b ob hob).resolve_left (hfoot b ob)
    have hhp : ∀ id ro cs', hvHp σ.hp p id = some (ro, cs') → ∃ cs, σ.hp id = some (false, cs) ∧ ro = false ∧ cs' = hvCells id p 0 cs ∧ (cs.all hvable) = true := by
      intro id ro cs' h
      unfold hvHp at h
      split at h
      · rename_i cs hcs
        split at h
        · rename_i hav
          injection h with h; simp only [Prod.mk.injEq] at h
          exact ⟨cs, hcs, h.1.symm, h.2.symm, hav⟩
        · cases h
      · cases h
    refine ⟨⟨?_, fun b o h => absurd h (hfoot b o), fun b o h => absurd h (hfoot b o), ?_, hs.m.pinmu, ?_, hs.m.footnew, ?_, ?_, ?_, ?_, ?_, ?_, ?_, fun h => absurd h hnf, ?_⟩, ?_, hs.sz, hs.defers⟩
    · refine ⟨hos.1.trans hs.m.below.os, hos.2.1.trans hs.m.below.tape, hos.2.2.trans hs.m.below.output, by rw [hsz]; exact hs.m.below.size, fun k hk hm => (hother k ?_).trans (hs.m.below.block k hk hm)⟩
      rintro rfl
      rcases hbN with h | h
      · omega
      · exact hm h
    · intro i b' hi
      obtain ⟨h1, h2⟩ := hs.m.pin i b' hi
      exact ⟨Nat.lt_succ_of_lt h1, h2⟩
    · intro b' o h; rw [hsz]; exact hs.m.footlt b' o h
    · rintro id ⟨ro, cs'⟩ h
      obtain ⟨cs, hcs, _⟩ := hhp id ro cs' h
      exact Nat.lt_succ_of_lt (hidp id cs hcs)
    · intro id ro cs' h
      obtain ⟨cs, hcs, rfl, rfl, hav⟩ := hhp id ro cs' h
      obtain ⟨h1, h2, ⟨vs, T, hg, hr⟩, hns⟩ := hs.m.box id false cs hcs
      simp only [Bool.false_eq_true, if_false] at hns
      have hne : G.β id ≠ b := fun h => hns ob (h ▸ hob)
      refine ⟨h1, ?_, ⟨vs, T, (hother _ hne).trans hg, ?_, ?_⟩, by simp only [Bool.false_eq_true, if_false]; exact hns⟩
      · rw [List.all_eq_true] at h2 ⊢
        intro c hc
        obtain ⟨j, hj⟩ := List.getElem?_of_mem hc
        rw [hvCells_get] at hj
        simp only [Option.map_eq_some_iff] at hj
        obtain ⟨c0, hc0, rfl⟩ := hj
        exact hvSC_scalar (h2 c0 (List.mem_of_getElem? hc0))
      · rw [hvCells_len]; exact hr.1
      · intro j c v hj hv
        rw [hvCells_get] at hj
        simp only [Option.map_eq_some_iff, Nat.zero_add] at hj
        obtain ⟨c0, hc0, rfl⟩ := hj
        have hr0 := hr.2 j c0 v hc0 hv
        have hjl : j < ln id := by rw [hln id cs hcs]; exact (List.getElem?_eq_some_iff.1 hc0).1
        have hdx := hx id j (hidp id cs hcs) hjl
        have hrepd : ∀ e t, asData c0 = some (e, t) → RSC ⟨upd ρ p x, p + 1, fun i => i < p + 1⟩ w' G (.dat (hvPath id p j) t) v := by
          intro e t hd
          obtain ⟨_, k2, k3, k4⟩ := hdd id j cs vs T c0 v e t hcs hg hc0 hv hd
          exact ⟨hpl id j, by show Rep w' G.S v (den (upd ρ p x) _); rw [hdx]; exact k3, by show Has t (den (upd ρ p x) _); rw [hdx]; exact k4.has t k2⟩
        cases c0 with
        | dat e t =>
          simp only [hvSC]
          split
          · rename_i hbr
            obtain ⟨k1, k2, k3⟩ := hr0
            have hde : den (upd ρ p x) e = den ρ e := den_agree hag k1
            exact ⟨E.lt_mono' (Nat.le_succ p) k1, by show Rep w' G.S v (den (upd ρ p x) e); rw [hde]; exact rep_bare hbr k3 k2, by show Has t (den (upd ρ p x) e); rw [hde]; exact k3⟩
          · exact hrepd e t rfl
        | own g e t => exact hrepd e (.list t) rfl
        | clip e t => exact hrepd e (.list t) rfl
        | nils t => exact hr0
        | adr id' off => exact ⟨Nat.lt_succ_of_lt hr0.1, hr0.2⟩
        | _ => exact absurd (List.all_eq_true.1 hav _ (List.mem_of_getElem? hc0)) (by simp [hvable])
    · rintro i j ⟨ro, y⟩ ⟨ro', z⟩ hi hj he
      obtain ⟨cs, hcs, _⟩ := hhp i ro y hi
      obtain ⟨cs2, hcs2, _⟩ := hhp j ro' z hj
      exact hs.m.inj i j _ _ hcs hcs2 he
    · intro g e T t h; cases h
    · intro g y b' h; cases h
    · intro g g' y z b' h; cases h
    · intro g id y z b' h; cases h
    · intro hz b' o hbo
      by_cases hbb : b' = b
      · subst hbb; exact hrow
      · rw [hother b' hbb]; exact hs.m.wz hz b' o hbo
    · intro t c s hts
      simp only [hvSt, hvTm] at hts
      have keep : ∀ (s : SV), σ.tm t = some (c, s) → (∀ v, RSV ⟨ρ, p, fun i => i < p⟩ w G s v → RSV ⟨upd ρ p x, p + 1, fun i => i < p + 1⟩ w' G s v) → (s.lt p = true → s.lt (p + 1) = true) →
          ∃ v, a.tmps[t]? = some v ∧ (∀ y ∈ c, y.1.lt (p + 1) = true) ∧ s.lt (p + 1) = true ∧ if condB (upd ρ p x) c = true then RSV ⟨upd ρ p x, p + 1, fun i => i < p + 1⟩ w' G s v else v = undef := by
        intro s hst hk hl
        obtain ⟨v, h1, h2, h3, h4⟩ := hs.t t c s hst
        refine ⟨v, h1, fun y hy => E.lt_mono' (Nat.le_succ p) (h2 y hy), hl h3, ?_⟩
        rw [condB_agree' hag (List.all_eq_true.2 h2)]
        have h4' : if condB ρ c = true then RSV ⟨ρ, p, fun i => i < p⟩ w G s v else v = undef := h4
        split
        · rename_i hc; rw [if_pos hc] at h4'; exact hk v h4'
        · rename_i hc; rw [if_neg hc] at h4'; exact h4'
      split at hts
      · rename_i c0 e ty hst
        split at hts
        · rename_i hbr
          simp only [Option.some.injEq, Prod.mk.injEq] at hts
          obtain ⟨rfl, rfl⟩ := hts
          refine keep _ hst (fun v hv => ?_) (fun h => E.lt_mono' (Nat.le_succ p) h)
          obtain ⟨k1, k2, k3⟩ := hv
          have hde : den (upd ρ p x) e = den ρ e := den_agree hag k1
          exact ⟨E.lt_mono' (Nat.le_succ p) k1, by show Rep w' G.S v (den (upd ρ p x) e); rw [hde]; exact rep_bare hbr k3 k2, by show Has ty (den (upd ρ p x) e); rw [hde]; exact k3⟩
        · cases hts
      · rename_i c0 id off hst
        simp only [Option.some.injEq, Prod.mk.injEq] at hts
        obtain ⟨rfl, rfl⟩ := hts
        exact keep _ hst (fun v hv => ⟨Nat.lt_succ_of_lt hv.1, hv.2⟩) (fun h => h)
      · rename_i c0 ty hst
        simp only [Option.some.injEq, Prod.mk.injEq] at hts
        obtain ⟨rfl, rfl⟩ := hts
        exact keep _ hst (fun v hv => hv) (fun h => h)
      · cases hts

/-- The write, as a step. -/
theorem hvOp_ok {ops : Array Oper} {o : Oper} (h : hvOp P σ o = true) (hs : Sim n w0 S0 ⟨ρ, p, fun i => i < p⟩ G σ a w) (hfoot : ∀ b o, ¬ S0.foot b o) (hnf : ¬ S0.fr) (hwz : S0.wz) (next : Act → World → Prop) (Q : Exit → Act → World → Prop)
    (hQ : ∀ x w', (∀ y ∈ hvFacts σ p, (den (upd ρ p x) y.1).toL.length = (den (upd ρ p x) y.2).toL.length) → Sim n w0 S0 ⟨upd ρ p x, p + 1, fun i => i < p + 1⟩ G (hvSt σ p) a w' → next a w') :
    Region.wanted o (yielded ops a.tmps) = true ∧ o.wp P a w next Q := by
  unfold hvOp at h
  split at h
  · rename_i t x y hgd hop
    split at h
    · rename_i l i u off e ty hx hy hsz
      simp only [Bool.and_eq_true, decide_eq_true_eq, Option.isNone_iff_eq_none] at h
      obtain ⟨⟨hdst, hty⟩, hsc⟩ := h
      obtain ⟨_, _, b, o', u', hv, hth, hcc⟩ := getV_ok hs.t (pc := []) rfl hx
      obtain ⟨_, y2, y3⟩ := getD_ok hs.t (pc := []) rfl hy
      obtain ⟨c, hcl, hch⟩ := (has_cells hth).2 off ty hty
      obtain ⟨hS, hcell, hrep⟩ := hcc off c hcl
      obtain ⟨cur, T, hcur⟩ := hs.m.wz hwz b _ hS
      have hcell' : cur[o' + off]? = some (u' off) := by rw [← cell_of_row w b (o' + off) cur T (0, 0) hcur]; exact hcell
      have hlt : o' + off < cur.size := (Array.getElem?_eq_some_iff.1 hcell').1
      -- the old value and the new one
      obtain ⟨hone, hcells, hcls⟩ : (a.eval y).oneCell' = true ∧ (a.eval y).cells = #[a.eval y] ∧ Cls (u' off) (a.eval y) := by
        cases ty with
        | int k =>
          obtain ⟨m, hm, hmk⟩ := has_int.1 y3
          obtain ⟨m0, rfl, _⟩ := has_int.1 hch
          rw [hm] at y2
          rw [y2.inv_int, hrep.inv_int]
          exact ⟨rfl, rfl, .inr (.inl ⟨k, m0, m, rfl, rfl, hmk⟩)⟩
        | bool =>
          obtain ⟨m, hm⟩ := has_bool.1 y3
          obtain ⟨m0, rfl⟩ := has_bool.1 hch
          rw [hm] at y2
          rw [y2.inv_bool, hrep.inv_bool]
          exact ⟨rfl, rfl, .inr (.inr ⟨m0, m, rfl, rfl⟩)⟩
        | _ => cases hsc
      have hst := run_storeCells_at P b (o' + off) T [a.eval y] 0 cur w hcur (by simp only [List.length_cons, List.length_nil]; omega) (by simpa using hone)
      simp only [Nat.add_zero, List.length_cons, List.length_nil, Nat.zero_add] at hst
      have hrun : (execOp a.eval o).run P w = .ok .skip (w.setRow b (cur.toList.take (o' + off) ++ [a.eval y] ++ cur.toList.drop (o' + off + 1)).toArray) := by
        have h1 := run_sizeT (P := P) (w := w) hsz
        unfold execOp; simp only [hop, hv, Instr.storeAt, Instr.sureAddr]
        simp [storeVar, h1, hcells]
        have := hst
        simp at this
        rw [this]; rfl
      refine ⟨by unfold Region.wanted; rw [hgd], ?_⟩
      unfold Oper.wp
      rw [hrun]
      obtain ⟨w', hw'⟩ : ∃ w', w' = w.setRow b (cur.toList.take (o' + off) ++ [a.eval y] ++ cur.toList.drop (o' + off + 1)).toArray := ⟨_, rfl⟩
      rw [← hw']
      have hheap : w'.heap[b]? = some (.cells (cur.toList.take (o' + off) ++ [a.eval y] ++ cur.toList.drop (o' + off + 1)).toArray T (0, 0)) := by rw [hw']; exact setRow_heap w b _ _ T _ hcur
      have hother : ∀ k, k ≠ b → w'.heap[k]? = w.heap[k]? := fun k hk => by rw [hw']; exact setRow_other w b k _ hk
      obtain ⟨xx, h1, h2⟩ := hs.havoc hfoot hnf (w' := w') (b := b) (by rw [hw']; exact ⟨rfl, rfl, rfl⟩) (by rw [hw']; simp) hother ⟨_, hS⟩ ⟨_, _, hheap⟩ (by
        intro z v hz
        rw [cell_of_row w b z cur T (0, 0) hcur] at hz
        rw [cell_of_row w' b z _ T (0, 0) hheap]
        have hzl : z < cur.size := (Array.getElem?_eq_some_iff.1 hz).1
        have htl : (cur.toList.take (o' + off)).length = o' + off := by rw [List.length_take, Array.length_toList]; omega
        rw [List.getElem?_toArray]
        by_cases hzo : z < o' + off
        · refine ⟨v, ?_, .inl rfl⟩
          rw [List.append_assoc, List.getElem?_append_left (by omega), List.getElem?_take, if_pos hzo]
          simpa using hz
        · by_cases hze : z = o' + off
          · subst hze
            rw [hz] at hcell'
            injection hcell' with hcell'
            refine ⟨a.eval y, ?_, by rw [hcell']; exact hcls⟩
            rw [List.append_assoc, List.getElem?_append_right (by omega), htl, Nat.sub_self]; rfl
          · refine ⟨v, ?_, .inl rfl⟩
            rw [List.getElem?_append_right (by simp only [List.length_append, htl, List.length_cons, List.length_nil]; omega), List.length_append, htl, List.getElem?_drop]
            simp only [List.length_cons, List.length_nil, Nat.zero_add]
            rw [show o' + off + 1 + (z - (o' + off + 1)) = z by omega]
            simpa using hz)
      have hput : a.put o.dst undef = a := by rw [hdst]; rfl
      show next (a.put o.dst undef) w'
      rw [hput]
      exact hQ xx w' h1 h2
    · cases h
  · cases h
end

section
variable {P : Program} {cs : Tbl} {ops : Array Oper} {p0 N : Nat} {S0 : Base} {w0 : World} {n : Nat} {Φ : Nat → List D → D} {Pre : Nat → List D → Prop}
/-- All operations of a region but one that must come last, in whatever order. -/
theorem wpAny_runs_last {Q : Exit → Act → World → Prop} {c : Nat} {oc : Oper} (hoc : ops[c]? = some oc) : ∀ (fuel : Nat) {r : List (Nat × Eff)} {σ σ' : St} {C : Cx} {G : Gh} {a : Act} {w : World} {listed : Array Bool}, Runs P cs ops p0 C.N r σ σ' → RunOk P cs ops p0 n S0 C Φ Pre r → Sim n w0 S0 C G σ a w →
    (r.map (·.1)).Nodup → (∀ x ∈ r, ¬ C.M (p0 + x.1)) → drawOk ops r = true → listed.size = ops.size → Closed ops listed → r.length + 1 ≤ fuel → (∀ i, i < ops.size → (listed.getD i false = false ↔ (i ∈ r.map (·.1) ∨ i = c))) →
    (∀ x ∈ r, x.1 < ops.size ∧ x.1 ≠ c ∧ ordB ops ops.size x.1 c = true) → backB ops = true →
    (∀ a' w' G' M', (∀ i, M' i → C.M i ∨ ∃ x ∈ r, i = p0 + x.1) → Sim n w0 S0 { C with M := M' } G' σ' a' w' → ∀ next : Act → World → Prop, (∀ a2 w2, Q .normal a2 w2 → next a2 w2) → Region.wanted oc (yielded ops a'.tmps) = true ∧ oc.wp P a' w' next Q) → wpAny P .any ops Q fuel listed a w := by
  have hcs : c < ops.size := (Array.getElem?_eq_some_iff.1 hoc).1
  intro fuel
  induction fuel with
  | zero => intro r σ σ' C G a w listed h hok hs hnd hM hdraw hsz hcl hfuel; omega
  | succ fuel ih =>
    intro r σ σ' C G a w listed h hok hs hnd hM hdraw hsz hcl hfuel hlist hlt hback hQ
    refine ⟨fun h0 => absurd h0 (back_ready hback hsz (r := c :: r.map (·.1)) (fun i hi => by rw [hlist i hi]; simp only [List.mem_cons]; exact Or.comm) (by simp) (fun x hx => by
      rcases List.mem_cons.1 hx with rfl | hx
      · exact hcs
      · obtain ⟨y, hy, rfl⟩ := List.mem_map.1 hx
        exact (hlt y hy).1)), fun i hi => ?_⟩
    obtain ⟨h0, o, ho, hpre⟩ := mem_ready.1 hi
    have hil : i < ops.size := (Array.getElem?_eq_some_iff.1 ho).1
    have h1 : listed.getD i false = false := by
      have hj' : i < listed.size := by omega
      simp [hj'] at h0 ⊢; exact h0
    have hget : ∀ xi j, xi < ops.size → j < ops.size → (listed.setIfInBounds xi true).getD j false = (if j = xi then true else listed.getD j false) := by
      intro xi j hxi hj
      by_cases hjx : j = xi
      · subst hjx
        have : j < listed.size := by omega
        simp [this]
      · rw [if_neg hjx]; exact getD_set_ne false (Ne.symm hjx)
    have hcl' : ∀ xi o, ops[xi]? = some o → (∀ e ∈ o.after, Region.binds .any e = true → listed.getD e.on false = true) → xi < ops.size → Closed ops (listed.setIfInBounds xi true) := by
      intro xi o ho hpre hxi j o' hoj hj e' he' hb'
      have hjl : j < ops.size := (Array.getElem?_eq_some_iff.1 hoj).1
      rw [hget xi j hxi hjl] at hj
      by_cases hjx : j = xi
      · subst hjx
        rw [ho] at hoj; injection hoj with hoj; subst hoj
        exact getD_set_true (hpre e' he' hb')
      · rw [if_neg hjx] at hj
        exact getD_set_true (hcl j o' hoj hj e' he' hb')
    by_cases hic : i = c
    · -- the last one: nothing else is left
      subst hic
      rw [hoc] at ho; injection ho with ho; subst ho
      have hr : r = [] := by
        cases hr : r with
        | nil => rfl
        | cons x r' =>
          exfalso
          have hx : x ∈ r := by rw [hr]; simp
          obtain ⟨q1, q2, q3⟩ := hlt x hx
          have hl := ord_listed hcl _ _ _ q3 (fun o' ho' => by rw [hoc] at ho'; injection ho' with ho'; subst ho'; exact hpre)
          have := (hlist x.1 q1).2 (.inl (List.mem_map.2 ⟨x, hx, rfl⟩))
          rw [hl] at this; cases this
      subst hr
      cases h
      obtain ⟨hw, hwp⟩ := hQ a w G C.M (fun i hi => .inl hi) hs (wpAny P .any ops Q fuel (listed.setIfInBounds i true)) (fun a2 w2 hq => by
        have hnone : Region.ready .any ops (listed.setIfInBounds i true) = [] := by
          rw [List.eq_nil_iff_forall_not_mem]
          intro j hj
          obtain ⟨g0, oj, hoj, _⟩ := mem_ready.1 hj
          have hjl : j < ops.size := (Array.getElem?_eq_some_iff.1 hoj).1
          have g1 : (listed.setIfInBounds i true).getD j false = false := by
            have hj' : j < (listed.setIfInBounds i true).size := by simp; omega
            rw [Array.getD_eq_getD_getElem?, Array.getElem?_eq_getElem hj'] at g0 ⊢; exact g0
          rw [hget i j hil hjl] at g1
          by_cases hji : j = i
          · rw [if_pos hji] at g1; cases g1
          · rw [if_neg hji, hlist j hjl] at g1
            rcases g1 with g1 | g1
            · simp at g1
            · exact hji g1
        cases fuel with
        | zero => exact ⟨hnone, hq⟩
        | succ fuel => exact ⟨fun _ => hq, fun j hj => by rw [hnone] at hj; cases hj⟩)
      unfold wpOp
      simp only [hoc]
      rw [if_pos hw]
      exact .inl hwp
    · have hmem := ((hlist i hil).1 h1).resolve_right hic
      obtain ⟨x, hx, hxi⟩ := List.mem_map.1 hmem
      obtain ⟨l, r2, hr⟩ := List.append_of_mem hx
      subst hr
      have hind : ∀ y ∈ l, indep ops y x = true := by
        intro y hy
        rcases drawOk_pair hdraw y hy with h | h
        · exact h
        · exfalso
          rw [hxi] at h
          have hyl := ord_listed hcl _ _ _ h (fun o' ho' => by rw [ho] at ho'; injection ho' with ho'; subst ho'; exact hpre)
          have hy1 := (hlt y (by simp [hy])).1
          have := (hlist y.1 hy1).2 (.inl (List.mem_map.2 ⟨y, by simp [hy], rfl⟩))
          rw [hyl] at this; cases this
      have hpull := Runs.pull hind h
      obtain ⟨xi, e⟩ := x
      simp only at hxi
      subst hxi
      have hsub : ∀ y ∈ l ++ r2, y ∈ l ++ (xi, e) :: r2 := by
        intro y hy; rcases List.mem_append.1 hy with h | h <;> simp [h]
      have hnd' : xi ∉ (l ++ r2).map (·.1) ∧ ((l ++ r2).map (·.1)).Nodup := by
        have : (((xi, e) :: (l ++ r2)).map (·.1)).Nodup := by
          refine (List.Perm.nodup_iff ?_).1 hnd
          exact (List.perm_middle).map _
        simpa using this
      cases hpull with
      | cons ho' he hlt' hr' =>
        rename_i o'
        rw [ho] at ho'; injection ho' with ho'; subst ho'
        have hp : ¬ C.M (p0 + xi) := hM (xi, e) (by simp)
        have hok' : RunOk P cs ops p0 n S0 C Φ Pre (l ++ r2) := ⟨hok.con, fun y hy => hok.items y (hsub y hy), fun y hy => hok.pos y (hsub y hy), hok.dst, hok.fr⟩
        have hstep := effOpD_ok hs he.choose_spec hp (hok.pos (xi, e) (by simp)) hok.con hlt' (hok.items (xi, e) (by simp)) (fun d hd => hok.dst xi o d ho hd) hok.fr
        have hsz' : (listed.setIfInBounds xi true).size = ops.size := by simp [hsz]
        have hlist' : ∀ j, j < ops.size → ((listed.setIfInBounds xi true).getD j false = false ↔ (j ∈ (l ++ r2).map (·.1) ∨ j = c)) := by
          intro j hj
          rw [hget xi j hil hj]
          by_cases hjx : j = xi
          · subst hjx
            simp only [if_true]
            exact ⟨fun h => (by cases h), fun h => h.elim (fun h => absurd h hnd'.1) (fun h => absurd h hic)⟩
          · rw [if_neg hjx, hlist j hj]
            simp [hjx]
        have hnext : ∀ a' w' G', Sim n w0 S0 (C.add (p0 + xi)) G' (e.app σ) a' w' → wpAny P .any ops Q fuel (listed.setIfInBounds xi true) a' w' := by
          intro a' w' G' hs'
          refine ih (C := C.add (p0 + xi)) hr' hok'.add hs' hnd'.2 ?_ (drawOk_drop hdraw) hsz' (hcl' xi o ho hpre hil) (by simp at hfuel ⊢; omega) hlist' (fun y hy => hlt y (hsub y hy)) hback ?_
          · rintro y hy (hm | hm)
            · exact hM y (hsub y hy) hm
            · have : y.1 = xi := by omega
              exact hnd'.1 (List.mem_map.2 ⟨y, hy, this⟩)
          · intro a'' w'' G'' M' hM' hs''
            refine hQ a'' w'' G'' M' (fun j hj => ?_) hs''
            rcases hM' j hj with (h1 | h1) | ⟨y, hy, h1⟩
            · exact .inl h1
            · exact .inr ⟨(xi, e), by simp, h1⟩
            · exact .inr ⟨y, hsub y hy, h1⟩
        have hthis := hstep (wpAny P .any ops Q fuel (listed.setIfInBounds xi true)) Q hnext
        unfold wpOp
        simp only [ho]
        split
        · rename_i hw; rw [if_pos hw] at hthis; exact .inl hthis
        · rename_i hw; rw [if_neg hw] at hthis; exact hthis
end
end Go.Eng
