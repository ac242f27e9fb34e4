/-
  A run of the code in plain data, and that it is sound (6).
-/
import Derived.Test.YtippnelhkdjknaaE5
import Derived.Deep.LoopGhost
import Derived.Sort.LoopGhostIn
import Derived.RangeFuncNested
import Derived.OrdersIn
/- The state behind a write into what readings lean on. -/
namespace Go.Eng
open Go Go.RowKit

def Ty.isSc : Ty → Bool
  | .int _ | .bool => true
  | _ => false
/-- A store of a number or a truth into an element of a slice that is read. -/
def hvOp (P : Program) (σ : St) (o : Oper) : Bool :=
  match o.guard, o.op with
  | none, .store t x y =>
    match getV P σ [] x t, getD_ P σ [] y t, sizeT P t with
    | some (.one (.eadr _ _ u off)), some (_, ty), some 1 => o.dst.isNone && decide (u.cells[off]? = some ty) && ty.isSc
    | _, _, _ => false
  | _, _ => false
def hvable : SC → Bool
  | .dat .. | .nils _ | .own .. | .clip .. | .adr .. => true
  | _ => false
def hvPath (id p j : Nat) : E := .un (.cell j) (.un (.cell id) (.var p))
def hvSC (e' : E) : SC → SC
  | .dat e t => if t.bare then .dat e t else .dat e' t
  | .own _ _ t => .dat e' (.list t)
  | .clip _ t => .dat e' (.list t)
  | c => c
def hvCells (id p : Nat) : Nat → List SC → List SC
  | _, [] => []
  | j, c :: r => hvSC (hvPath id p j) c :: hvCells id p (j + 1) r
def hvTm (tm : Nat → Option (Cond × SV)) (t : Nat) : Option (Cond × SV) :=
  match tm t with
  | some (c, .one (.dat e ty)) => if ty.bare then some (c, .one (.dat e ty)) else none
  | some (c, .one (.adr id off)) => some (c, .one (.adr id off))
  | some (c, .one (.nils ty)) => some (c, .one (.nils ty))
  | _ => none
def hvHp (hp : Nat → Option (Bool × List SC)) (p id : Nat) : Option (Bool × List SC) :=
  match hp id with
  | some (false, cs) => if cs.all hvable then some (false, hvCells id p 0 cs) else none
  | _ => none
def hvSt (σ : St) (p : Nat) : St := ⟨hvTm σ.tm, hvHp σ.hp p, fun _ => none⟩
def hvFactsC (id p : Nat) : Nat → List SC → List (E × E)
  | _, [] => []
  | j, c :: r => (match asData c with | some (e, .list _) => [(hvPath id p j, e)] | _ => []) ++ hvFactsC id p (j + 1) r
/-- What is as long as it was. -/
def hvFacts (σ : St) (p : Nat) : List (E × E) := (List.range p).flatMap fun id => match σ.hp id with
  | some (false, cs) => hvFactsC id p 0 cs
  | _ => []

theorem hvCells_get (id p : Nat) : ∀ (l : List SC) (j i : Nat), (hvCells id p j l)[i]? = (l[i]?).map fun c => hvSC (hvPath id p (j + i)) c
  | [], j, i => by simp [hvCells]
  | c :: l, j, 0 => by simp [hvCells]
  | c :: l, j, i + 1 => by simp only [hvCells, List.getElem?_cons_succ, hvCells_get id p l (j + 1) i]; congr 2; funext t; congr 2; omega
theorem hvCells_len (id p : Nat) : ∀ (l : List SC) (j : Nat), (hvCells id p j l).length = l.length
  | [], _ => rfl
  | _ :: l, j => by simp [hvCells, hvCells_len id p l]
theorem hvFactsC_mem {id p : Nat} {y : E × E} : ∀ {l : List SC} {j : Nat}, y ∈ hvFactsC id p j l → ∃ (i : Nat) (c : SC) (t : Ty), l[i]? = some c ∧ asData c = some (y.2, .list t) ∧ y.1 = hvPath id p (j + i)
  | c :: l, j, h => by
    simp only [hvFactsC] at h
    rcases List.mem_append.1 h with h | h
    · split at h
      · rename_i e t hd
        simp only [List.mem_singleton] at h
        subst h
        exact ⟨0, c, t, rfl, hd, rfl⟩
      · simp at h
    · obtain ⟨i, c', t, h1, h2, h3⟩ := hvFactsC_mem h
      exact ⟨i + 1, c', t, by simpa using h1, h2, by rw [h3]; congr 1; omega⟩

section
variable {P : Program} {w w0 : World} {S0 : Base} {ρ : Nat → D} {p : Nat} {G : Gh} {σ : St} {a : Act} {n : Nat}

theorem hvSC_scalar {e' : E} {c : SC} (h : c.scalar = true) : (hvSC e' c).scalar = true := by
  cases c <;> simp only [hvSC] <;> first
    | (split <;> exact h)
    | rfl
    | exact h

theorem Sim.havoc (hs : Sim n w0 S0 ⟨ρ, p, fun i => i < p⟩ G σ a w) (hfoot : ∀ b o, ¬ S0.foot b o) (hnf : ¬ S0.fr) {w' : World} {b : Nat} (hos : w'.os = w.os ∧ w'.tape = w.tape ∧ w'.output = w.output) (hsz : w'.heap.size = w.heap.size)
    (hother : ∀ k, k ≠ b → w'.heap[k]? = w.heap[k]?) (hb : ∃ o, G.S b o) (hrow : ∃ cur T, w'.heap[b]? = some (.cells cur T (0, 0)))
    (hcls : ∀ o v, w.cell? ⟨b, o, none⟩ = some v → ∃ v', w'.cell? ⟨b, o, none⟩ = some v' ∧ Cls v v') :
    ∃ x, (∀ y ∈ hvFacts σ p, (den (upd ρ p x) y.1).toL.length = (den (upd ρ p x) y.2).toL.length) ∧ Sim n w0 S0 ⟨upd ρ p x, p + 1, fun i => i < p + 1⟩ G (hvSt σ p) a w' := by
  obtain ⟨ob, hob⟩ := hb
  have hcAll : ∀ b' o v, G.S b' o → w.cell? ⟨b', o, none⟩ = some v → ∃ v', w'.cell? ⟨b', o, none⟩ = some v' ∧ Cls v v' := by
    intro b' o v _ hv
    by_cases hbb : b' = b
    · subst hbb; exact hcls o v hv
    · exact ⟨v, by rw [cell_heap (hother b' hbb)]; exact hv, .inl rfl⟩
  have hdd : ∀ (id j : Nat), ∃ d', ∀ (cs : List SC) (vs : List Value) (T : TypeId) (c : SC) (v : Value) (e : E) (t : Ty), σ.hp id = some (false, cs) → w.heap[G.β id]? = some (.cells (List.toArray vs) T (0, 0)) → cs[j]? = some c → vs[j]? = some v → asData c = some (e, t) →
      e.lt p = true ∧ Has t (den ρ e) ∧ Rep w' G.S v d' ∧ Kin (den ρ e) d' := by
    intro id j
    by_cases h : ∃ (cs : List SC) (vs : List Value) (T : TypeId) (c : SC) (v : Value) (e : E) (t : Ty), σ.hp id = some (false, cs) ∧ w.heap[G.β id]? = some (.cells (List.toArray vs) T (0, 0)) ∧ cs[j]? = some c ∧ vs[j]? = some v ∧ asData c = some (e, t)
    · obtain ⟨cs, vs, T, c, v, e, t, h1, h2, h3, h4, h5⟩ := h
      obtain ⟨_, _, hblk, _⟩ := hs.m.box id false cs h1
      obtain ⟨vs', T', hg, hr⟩ := hblk.isCells h2
      rw [h2] at hg
      injection hg with hg
      injection hg with hg1 hg2 _
      obtain rfl : vs = vs' := congrArg Array.toList hg1
      obtain ⟨k1, k2, k3⟩ := asData_ok h5 (hr.2 j c v h3 h4)
      obtain ⟨d', q1, q2⟩ := Rep.hv hcAll k2
      refine ⟨d', fun cs2 vs2 T2 c2 v2 e2 t2 g1 g2 g3 g4 g5 => ?_⟩
      rw [h1] at g1; injection g1 with g1; simp only [Prod.mk.injEq, true_and] at g1; subst g1
      rw [h2] at g2
      injection g2 with g2
      injection g2 with g21 g22 _
      obtain rfl : vs = vs2 := congrArg Array.toList g21
      rw [h3] at g3; injection g3 with g3; subst g3
      rw [h4] at g4; injection g4 with g4; subst g4
      rw [h5] at g5; injection g5 with g5; simp only [Prod.mk.injEq] at g5; obtain ⟨rfl, rfl⟩ := g5
      exact ⟨k1, k3, q1, q2⟩
    · exact ⟨.top, fun cs vs T c v e t h1 h2 h3 h4 h5 => absurd ⟨cs, vs, T, c, v, e, t, h1, h2, h3, h4, h5⟩ h⟩
  obtain ⟨dd, hdd⟩ : ∃ dd : Nat → Nat → D, ∀ (id j : Nat), ∀ (cs : List SC) (vs : List Value) (T : TypeId) (c : SC) (v : Value) (e : E) (t : Ty), σ.hp id = some (false, cs) → w.heap[G.β id]? = some (.cells (List.toArray vs) T (0, 0)) → cs[j]? = some c → vs[j]? = some v → asData c = some (e, t) →
      e.lt p = true ∧ Has t (den ρ e) ∧ Rep w' G.S v (dd id j) ∧ Kin (den ρ e) (dd id j) :=
    ⟨fun id j => Classical.choose (hdd id j), fun id j => Classical.choose_spec (hdd id j)⟩
  obtain ⟨ln, hln⟩ : ∃ ln : Nat → Nat, ∀ id cs, σ.hp id = some (false, cs) → ln id = cs.length := by
    refine ⟨fun id => match σ.hp id with | some (_, cs) => cs.length | none => 0, fun id cs h => ?_⟩
    simp only [h]
  obtain ⟨x, hx⟩ : ∃ x, ∀ id j, id < p → j < ln id → den (upd ρ p x) (hvPath id p j) = dd id j := by
    refine ⟨.agg ((List.range p).map fun id => .agg ((List.range (ln id)).map (dd id))), fun id j hid hj => ?_⟩
    have e1 : ∀ (d : D), den (upd ρ p d) (hvPath id p j) = ((d.toL.getD id .top).toL.getD j .top) := by
      intro d; show (U.cell j).den ((U.cell id).den (upd ρ p d p)) = _; rw [upd_same]; rfl
    rw [e1]
    simp [D.toL, List.getD, hid, hj]
  have hag : ∀ i, i < p → (upd ρ p x) i = ρ i := fun i hi => upd_ne _ _ (by omega)
  have hpl : ∀ id j, (hvPath id p j).lt (p + 1) = true := fun id j => by simp [hvPath, E.lt]
  have hidp : ∀ id cs, σ.hp id = some (false, cs) → id < p := fun id cs h => hs.m.boxM id _ h
  refine ⟨x, ?_, ?_⟩
  · intro y hy
    obtain ⟨id, hid, hy⟩ := List.mem_flatMap.1 hy
    split at hy
    · rename_i cs hcs
      obtain ⟨i, c, t, h1, h2, h3⟩ := hvFactsC_mem hy
      obtain ⟨_, _, hblk, _⟩ := hs.m.box id false cs hcs
      obtain ⟨vs, T, hg, hr⟩ := hblk.cells (notMap_of h1 (fun e kt T he => by rw [he] at h2; cases h2))
      have hil : i < cs.length := (List.getElem?_eq_some_iff.1 h1).1
      have hvi : vs[i]? = some (vs[i]'(by rw [hr.1]; exact hil)) := List.getElem?_eq_getElem _
      obtain ⟨k1, k2, k3, k4⟩ := hdd id i cs vs T c _ _ _ hcs hg h1 hvi h2
      rw [h3, Nat.zero_add, hx id i (hidp id cs hcs) (by rw [hln id cs hcs]; exact hil), den_agree hag k1]
      exact k4.len
    · simp at hy
  · have hbN : NewB w0 S0 b := (hs.m.footnew b ob hob).resolve_left (hfoot b ob)
    have hhp : ∀ id ro cs', hvHp σ.hp p id = some (ro, cs') → ∃ cs, σ.hp id = some (false, cs) ∧ ro = false ∧ cs' = hvCells id p 0 cs ∧ (cs.all hvable) = true := by
      intro id ro cs' h
      unfold hvHp at h
      split at h
      · rename_i cs hcs
        split at h
        · rename_i hav
          injection h with h; simp only [Prod.mk.injEq] at h
          exact ⟨cs, hcs, h.1.symm, h.2.symm, hav⟩
        · cases h
      · cases h
    refine ⟨⟨?_, fun b o h => absurd h (hfoot b o), fun b o h => absurd h (hfoot b o), ?_, hs.m.pinmu, ?_, hs.m.footnew, ?_, ?_, ?_, ?_, ?_, ?_, ?_, fun h => absurd h hnf, ?_⟩, ?_, hs.sz, hs.defers⟩
    · refine ⟨hos.1.trans hs.m.below.os, hos.2.1.trans hs.m.below.tape, hos.2.2.trans hs.m.below.output, by rw [hsz]; exact hs.m.below.size, fun k hk hm => (hother k ?_).trans (hs.m.below.block k hk hm)⟩
      rintro rfl
      rcases hbN with h | h
      · omega
      · exact hm h
    · intro i b' hi
      obtain ⟨h1, h2⟩ := hs.m.pin i b' hi
      exact ⟨Nat.lt_succ_of_lt h1, h2⟩
    · intro b' o h; rw [hsz]; exact hs.m.footlt b' o h
    · rintro id ⟨ro, cs'⟩ h
      obtain ⟨cs, hcs, _⟩ := hhp id ro cs' h
      exact Nat.lt_succ_of_lt (hidp id cs hcs)
    · intro id ro cs' h
      obtain ⟨cs, hcs, rfl, rfl, hav⟩ := hhp id ro cs' h
      obtain ⟨h1, h2, hblk, hns⟩ := hs.m.box id false cs hcs
      obtain ⟨vs, T, hg, hr⟩ := hblk.cells (by
        unfold mapOf
        split
        · simp [hvable] at hav
        · rfl)
      simp only [Bool.false_eq_true, if_false] at hns
      have hne : G.β id ≠ b := fun h => hns ob (h ▸ hob)
      refine ⟨h1, ?_, BlkOk.mk (vs := vs) (T := T) ((hother _ hne).trans hg) ⟨?_, ?_⟩, by simp only [Bool.false_eq_true, if_false]; exact hns⟩
      · rw [List.all_eq_true] at h2 ⊢
        intro c hc
        obtain ⟨j, hj⟩ := List.getElem?_of_mem hc
        rw [hvCells_get] at hj
        simp only [Option.map_eq_some_iff] at hj
        obtain ⟨c0, hc0, rfl⟩ := hj
        exact hvSC_scalar (h2 c0 (List.mem_of_getElem? hc0))
      · rw [hvCells_len]; exact hr.1
      · intro j c v hj hv
        rw [hvCells_get] at hj
        simp only [Option.map_eq_some_iff, Nat.zero_add] at hj
        obtain ⟨c0, hc0, rfl⟩ := hj
        have hr0 := hr.2 j c0 v hc0 hv
        have hjl : j < ln id := by rw [hln id cs hcs]; exact (List.getElem?_eq_some_iff.1 hc0).1
        have hdx := hx id j (hidp id cs hcs) hjl
        have hrepd : ∀ e t, asData c0 = some (e, t) → RSC ⟨upd ρ p x, p + 1, fun i => i < p + 1⟩ w' G (.dat (hvPath id p j) t) v := by
          intro e t hd
          obtain ⟨_, k2, k3, k4⟩ := hdd id j cs vs T c0 v e t hcs hg hc0 hv hd
          exact ⟨hpl id j, by show Rep w' G.S v (den (upd ρ p x) _); rw [hdx]; exact k3, by show Has t (den (upd ρ p x) _); rw [hdx]; exact k4.has t k2⟩
        cases c0 with
        | dat e t =>
          simp only [hvSC]
          split
          · rename_i hbr
            obtain ⟨k1, k2, k3⟩ := hr0
            have hde : den (upd ρ p x) e = den ρ e := den_agree hag k1
            exact ⟨E.lt_mono' (Nat.le_succ p) k1, by show Rep w' G.S v (den (upd ρ p x) e); rw [hde]; exact rep_bare hbr k3 k2, by show Has t (den (upd ρ p x) e); rw [hde]; exact k3⟩
          · exact hrepd e t rfl
        | own g e t => exact hrepd e (.list t) rfl
        | clip e t => exact hrepd e (.list t) rfl
        | nils t => exact hr0
        | adr id' off => exact ⟨Nat.lt_succ_of_lt hr0.1, hr0.2⟩
        | _ => exact absurd (List.all_eq_true.1 hav _ (List.mem_of_getElem? hc0)) (by simp [hvable])
    · rintro i j ⟨ro, y⟩ ⟨ro', z⟩ hi hj he
      obtain ⟨cs, hcs, _⟩ := hhp i ro y hi
      obtain ⟨cs2, hcs2, _⟩ := hhp j ro' z hj
      exact hs.m.inj i j _ _ hcs hcs2 he
    · intro g e T t h; cases h
    · intro g y b' h; cases h
    · intro g g' y z b' h; cases h
    · intro g id y z b' h; cases h
    · intro hz b' o hbo
      by_cases hbb : b' = b
      · subst hbb; exact hrow
      · rw [hother b' hbb]; exact hs.m.wz hz b' o hbo
    · intro t c s hts
      simp only [hvSt, hvTm] at hts
      have keep : ∀ (s : SV), σ.tm t = some (c, s) → (∀ v, RSV ⟨ρ, p, fun i => i < p⟩ w G s v → RSV ⟨upd ρ p x, p + 1, fun i => i < p + 1⟩ w' G s v) → (s.lt p = true → s.lt (p + 1) = true) →
          ∃ v, a.tmps[t]? = some v ∧ (∀ y ∈ c, y.1.lt (p + 1) = true) ∧ s.lt (p + 1) = true ∧ if condB (upd ρ p x) c = true then RSV ⟨upd ρ p x, p + 1, fun i => i < p + 1⟩ w' G s v else v = undef := by
        intro s hst hk hl
        obtain ⟨v, h1, h2, h3, h4⟩ := hs.t t c s hst
        refine ⟨v, h1, fun y hy => E.lt_mono' (Nat.le_succ p) (h2 y hy), hl h3, ?_⟩
        rw [condB_agree' hag (List.all_eq_true.2 h2)]
        have h4' : if condB ρ c = true then RSV ⟨ρ, p, fun i => i < p⟩ w G s v else v = undef := h4
        split
        · rename_i hc; rw [if_pos hc] at h4'; exact hk v h4'
        · rename_i hc; rw [if_neg hc] at h4'; exact h4'
      split at hts
      · rename_i c0 e ty hst
        split at hts
        · rename_i hbr
          simp only [Option.some.injEq, Prod.mk.injEq] at hts
          obtain ⟨rfl, rfl⟩ := hts
          refine keep _ hst (fun v hv => ?_) (fun h => E.lt_mono' (Nat.le_succ p) h)
          obtain ⟨k1, k2, k3⟩ := hv
          have hde : den (upd ρ p x) e = den ρ e := den_agree hag k1
          exact ⟨E.lt_mono' (Nat.le_succ p) k1, by show Rep w' G.S v (den (upd ρ p x) e); rw [hde]; exact rep_bare hbr k3 k2, by show Has ty (den (upd ρ p x) e); rw [hde]; exact k3⟩
        · cases hts
      · rename_i c0 id off hst
        simp only [Option.some.injEq, Prod.mk.injEq] at hts
        obtain ⟨rfl, rfl⟩ := hts
        exact keep _ hst (fun v hv => ⟨Nat.lt_succ_of_lt hv.1, hv.2⟩) (fun h => h)
      · rename_i c0 ty hst
        simp only [Option.some.injEq, Prod.mk.injEq] at hts
        obtain ⟨rfl, rfl⟩ := hts
        exact keep _ hst (fun v hv => hv) (fun h => h)
      · cases hts

/-- The write, as a step. -/
theorem hvOp_ok {ops : Array Oper} {o : Oper} (h : hvOp P σ o = true) (hs : Sim n w0 S0 ⟨ρ, p, fun i => i < p⟩ G σ a w) (hfoot : ∀ b o, ¬ S0.foot b o) (hnf : ¬ S0.fr) (hwz : S0.wz) (next : Act → World → Prop) (Q : Exit → Act → World → Prop)
    (hQ : ∀ x w', (∀ y ∈ hvFacts σ p, (den (upd ρ p x) y.1).toL.length = (den (upd ρ p x) y.2).toL.length) → Sim n w0 S0 ⟨upd ρ p x, p + 1, fun i => i < p + 1⟩ G (hvSt σ p) a w' → next a w') :
    Region.wanted o (yielded ops a.tmps) = true ∧ o.wp P a w next Q := by
  unfold hvOp at h
  split at h
  · rename_i t x y hgd hop
    split at h
    · rename_i l i u off e ty hx hy hsz
      simp only [Bool.and_eq_true, decide_eq_true_eq, Option.isNone_iff_eq_none] at h
      obtain ⟨⟨hdst, hty⟩, hsc⟩ := h
      obtain ⟨_, _, b, o', u', hv, hth, hcc⟩ := getV_ok hs.t (pc := []) rfl hx
      obtain ⟨_, y2, y3⟩ := getD_ok hs.t (pc := []) rfl hy
      obtain ⟨c, hcl, hch⟩ := (has_cells hth).2 off ty hty
      obtain ⟨hS, hcell, hrep⟩ := hcc off c hcl
      obtain ⟨cur, T, hcur⟩ := hs.m.wz hwz b _ hS
      have hcell' : cur[o' + off]? = some (u' off) := by rw [← cell_of_row w b (o' + off) cur T (0, 0) hcur]; exact hcell
      have hlt : o' + off < cur.size := (Array.getElem?_eq_some_iff.1 hcell').1
      -- the old value and the new one
      obtain ⟨hone, hcells, hcls⟩ : (a.eval y).oneCell' = true ∧ (a.eval y).cells = #[a.eval y] ∧ Cls (u' off) (a.eval y) := by
        cases ty with
        | int k =>
          obtain ⟨m, hm, hmk⟩ := has_int.1 y3
          obtain ⟨m0, rfl, _⟩ := has_int.1 hch
          rw [hm] at y2
          rw [y2.inv_int, hrep.inv_int]
          exact ⟨rfl, rfl, .inr (.inl ⟨k, m0, m, rfl, rfl, hmk⟩)⟩
        | bool =>
          obtain ⟨m, hm⟩ := has_bool.1 y3
          obtain ⟨m0, rfl⟩ := has_bool.1 hch
          rw [hm] at y2
          rw [y2.inv_bool, hrep.inv_bool]
          exact ⟨rfl, rfl, .inr (.inr ⟨m0, m, rfl, rfl⟩)⟩
        | _ => cases hsc
      have hst := run_storeCells_at P b (o' + off) T [a.eval y] 0 cur w hcur (by simp only [List.length_cons, List.length_nil]; omega) (by simpa using hone)
      simp only [Nat.add_zero, List.length_cons, List.length_nil, Nat.zero_add] at hst
      have hrun : (execOp a.eval o).run P w = .ok .skip (w.setRow b (cur.toList.take (o' + off) ++ [a.eval y] ++ cur.toList.drop (o' + off + 1)).toArray) := by
        have h1 := run_sizeT (P := P) (w := w) hsz
        unfold execOp; simp only [hop, hv, Instr.storeAt, Instr.sureAddr]
        simp [storeVar, h1, hcells]
        have := hst
        simp at this
        rw [this]; rfl
      refine ⟨by unfold Region.wanted; rw [hgd], ?_⟩
      unfold Oper.wp
      rw [hrun]
      obtain ⟨w', hw'⟩ : ∃ w', w' = w.setRow b (cur.toList.take (o' + off) ++ [a.eval y] ++ cur.toList.drop (o' + off + 1)).toArray := ⟨_, rfl⟩
      rw [← hw']
      have hheap : w'.heap[b]? = some (.cells (cur.toList.take (o' + off) ++ [a.eval y] ++ cur.toList.drop (o' + off + 1)).toArray T (0, 0)) := by rw [hw']; exact setRow_heap w b _ _ T _ hcur
      have hother : ∀ k, k ≠ b → w'.heap[k]? = w.heap[k]? := fun k hk => by rw [hw']; exact setRow_other w b k _ hk
      obtain ⟨xx, h1, h2⟩ := hs.havoc hfoot hnf (w' := w') (b := b) (by rw [hw']; exact ⟨rfl, rfl, rfl⟩) (by rw [hw']; simp) hother ⟨_, hS⟩ ⟨_, _, hheap⟩ (by
        intro z v hz
        rw [cell_of_row w b z cur T (0, 0) hcur] at hz
        rw [cell_of_row w' b z _ T (0, 0) hheap]
        have hzl : z < cur.size := (Array.getElem?_eq_some_iff.1 hz).1
        have htl : (cur.toList.take (o' + off)).length = o' + off := by rw [List.length_take, Array.length_toList]; omega
        rw [List.getElem?_toArray]
        by_cases hzo : z < o' + off
        · refine ⟨v, ?_, .inl rfl⟩
          rw [List.append_assoc, List.getElem?_append_left (by omega), List.getElem?_take, if_pos hzo]
          simpa using hz
        · by_cases hze : z = o' + off
          · subst hze
            rw [hz] at hcell'
            injection hcell' with hcell'
            refine ⟨a.eval y, ?_, by rw [hcell']; exact hcls⟩
            rw [List.append_assoc, List.getElem?_append_right (by omega), htl, Nat.sub_self]; rfl
          · refine ⟨v, ?_, .inl rfl⟩
            rw [List.getElem?_append_right (by simp only [List.length_append, htl, List.length_cons, List.length_nil]; omega), List.length_append, htl, List.getElem?_drop]
            simp only [List.length_cons, List.length_nil, Nat.zero_add]
            rw [show o' + off + 1 + (z - (o' + off + 1)) = z by omega]
            simpa using hz)
      have hput : a.put o.dst undef = a := by rw [hdst]; rfl
      show next (a.put o.dst undef) w'
      rw [hput]
      exact hQ xx w' h1 h2
    · cases h
  · cases h
end

section
variable {P : Program} {cs : Tbl} {ops : Array Oper} {p0 N : Nat} {S0 : Base} {w0 : World} {n : Nat} {Φ : Nat → List D → D} {Pre : Nat → List D → Prop}
/-- All operations of a region but one that must come last, in whatever order. -/
theorem wpAny_runs_last {Q : Exit → Act → World → Prop} {c : Nat} {oc : Oper} (hoc : ops[c]? = some oc) : ∀ (fuel : Nat) {r : List (Nat × Eff)} {σ σ' : St} {C : Cx} {G : Gh} {a : Act} {w : World} {listed : Array Bool}, Runs P cs ops p0 C.N r σ σ' → RunOk P cs ops p0 n S0 C Φ Pre r → Sim n w0 S0 C G σ a w →
    (r.map (·.1)).Nodup → (∀ x ∈ r, ¬ C.M (p0 + x.1)) → drawOk ops r = true → listed.size = ops.size → Closed ops listed → r.length + 1 ≤ fuel → (∀ i, i < ops.size → (listed.getD i false = false ↔ (i ∈ r.map (·.1) ∨ i = c))) →
    (∀ x ∈ r, x.1 < ops.size ∧ x.1 ≠ c ∧ ordB ops ops.size x.1 c = true) → backB ops = true →
    (∀ a' w' G' M', (∀ i, M' i → C.M i ∨ ∃ x ∈ r, i = p0 + x.1) → Sim n w0 S0 { C with M := M' } G' σ' a' w' → ∀ next : Act → World → Prop, (∀ a2 w2, Q .normal a2 w2 → next a2 w2) → Region.wanted oc (yielded ops a'.tmps) = true ∧ oc.wp P a' w' next Q) → wpAny P .any ops Q fuel listed a w := by
  have hcs : c < ops.size := (Array.getElem?_eq_some_iff.1 hoc).1
  intro fuel
  induction fuel with
  | zero => intro r σ σ' C G a w listed h hok hs hnd hM hdraw hsz hcl hfuel; omega
  | succ fuel ih =>
    intro r σ σ' C G a w listed h hok hs hnd hM hdraw hsz hcl hfuel hlist hlt hback hQ
    refine ⟨fun h0 => absurd h0 (back_ready hback hsz (r := c :: r.map (·.1)) (fun i hi => by rw [hlist i hi]; simp only [List.mem_cons]; exact Or.comm) (by simp) (fun x hx => by
      rcases List.mem_cons.1 hx with rfl | hx
      · exact hcs
      · obtain ⟨y, hy, rfl⟩ := List.mem_map.1 hx
        exact (hlt y hy).1)), fun i hi => ?_⟩
    obtain ⟨h0, o, ho, hpre⟩ := mem_ready.1 hi
    have hil : i < ops.size := (Array.getElem?_eq_some_iff.1 ho).1
    have h1 : listed.getD i false = false := by
      have hj' : i < listed.size := by omega
      simp [hj'] at h0 ⊢; exact h0
    have hget : ∀ xi j, xi < ops.size → j < ops.size → (listed.setIfInBounds xi true).getD j false = (if j = xi then true else listed.getD j false) := by
      intro xi j hxi hj
      by_cases hjx : j = xi
      · subst hjx
        have : j < listed.size := by omega
        simp [this]
      · rw [if_neg hjx]; exact getD_set_ne false (Ne.symm hjx)
    have hcl' : ∀ xi o, ops[xi]? = some o → (∀ e ∈ o.after, Region.binds .any e = true → listed.getD e.on false = true) → xi < ops.size → Closed ops (listed.setIfInBounds xi true) := by
      intro xi o ho hpre hxi j o' hoj hj e' he' hb'
      have hjl : j < ops.size := (Array.getElem?_eq_some_iff.1 hoj).1
      rw [hget xi j hxi hjl] at hj
      by_cases hjx : j = xi
      · subst hjx
        rw [ho] at hoj; injection hoj with hoj; subst hoj
        exact getD_set_true (hpre e' he' hb')
      · rw [if_neg hjx] at hj
        exact getD_set_true (hcl j o' hoj hj e' he' hb')
    by_cases hic : i = c
    · -- the last one: nothing else is left
      subst hic
      rw [hoc] at ho; injection ho with ho; subst ho
      have hr : r = [] := by
        cases hr : r with
        | nil => rfl
        | cons x r' =>
          exfalso
          have hx : x ∈ r := by rw [hr]; simp
          obtain ⟨q1, q2, q3⟩ := hlt x hx
          have hl := ord_listed hcl _ _ _ q3 (fun o' ho' => by rw [hoc] at ho'; injection ho' with ho'; subst ho'; exact hpre)
          have := (hlist x.1 q1).2 (.inl (List.mem_map.2 ⟨x, hx, rfl⟩))
          rw [hl] at this; cases this
      subst hr
      cases h
      obtain ⟨hw, hwp⟩ := hQ a w G C.M (fun i hi => .inl hi) hs (wpAny P .any ops Q fuel (listed.setIfInBounds i true)) (fun a2 w2 hq => by
        have hnone : Region.ready .any ops (listed.setIfInBounds i true) = [] := by
          rw [List.eq_nil_iff_forall_not_mem]
          intro j hj
          obtain ⟨g0, oj, hoj, _⟩ := mem_ready.1 hj
          have hjl : j < ops.size := (Array.getElem?_eq_some_iff.1 hoj).1
          have g1 : (listed.setIfInBounds i true).getD j false = false := by
            have hj' : j < (listed.setIfInBounds i true).size := by simp; omega
            rw [Array.getD_eq_getD_getElem?, Array.getElem?_eq_getElem hj'] at g0 ⊢; exact g0
          rw [hget i j hil hjl] at g1
          by_cases hji : j = i
          · rw [if_pos hji] at g1; cases g1
          · rw [if_neg hji, hlist j hjl] at g1
            rcases g1 with g1 | g1
            · simp at g1
            · exact hji g1
        cases fuel with
        | zero => exact ⟨hnone, hq⟩
        | succ fuel => exact ⟨fun _ => hq, fun j hj => by rw [hnone] at hj; cases hj⟩)
      unfold wpOp
      simp only [hoc]
      rw [if_pos hw]
      exact .inl hwp
    · have hmem := ((hlist i hil).1 h1).resolve_right hic
      obtain ⟨x, hx, hxi⟩ := List.mem_map.1 hmem
      obtain ⟨l, r2, hr⟩ := List.append_of_mem hx
      subst hr
      have hind : ∀ y ∈ l, indep ops y x = true := by
        intro y hy
        rcases drawOk_pair hdraw y hy with h | h
        · exact h
        · exfalso
          rw [hxi] at h
          have hyl := ord_listed hcl _ _ _ h (fun o' ho' => by rw [ho] at ho'; injection ho' with ho'; subst ho'; exact hpre)
          have hy1 := (hlt y (by simp [hy])).1
          have := (hlist y.1 hy1).2 (.inl (List.mem_map.2 ⟨y, by simp [hy], rfl⟩))
          rw [hyl] at this; cases this
      have hpull := Runs.pull hind h
      obtain ⟨xi, e⟩ := x
      simp only at hxi
      subst hxi
      have hsub : ∀ y ∈ l ++ r2, y ∈ l ++ (xi, e) :: r2 := by
        intro y hy; rcases List.mem_append.1 hy with h | h <;> simp [h]
      have hnd' : xi ∉ (l ++ r2).map (·.1) ∧ ((l ++ r2).map (·.1)).Nodup := by
        have : (((xi, e) :: (l ++ r2)).map (·.1)).Nodup := by
          refine (List.Perm.nodup_iff ?_).1 hnd
          exact (List.perm_middle).map _
        simpa using this
      cases hpull with
      | cons ho' he hlt' hr' =>
        rename_i o'
        rw [ho] at ho'; injection ho' with ho'; subst ho'
        have hp : ¬ C.M (p0 + xi) := hM (xi, e) (by simp)
        have hok' : RunOk P cs ops p0 n S0 C Φ Pre (l ++ r2) := ⟨hok.con, fun y hy => hok.items y (hsub y hy), fun y hy => hok.pos y (hsub y hy), hok.dst, hok.fr⟩
        have hstep := effOpD_ok hs he.choose_spec hp (hok.pos (xi, e) (by simp)) hok.con hlt' (hok.items (xi, e) (by simp)) (fun d hd => hok.dst xi o d ho hd) hok.fr
        have hsz' : (listed.setIfInBounds xi true).size = ops.size := by simp [hsz]
        have hlist' : ∀ j, j < ops.size → ((listed.setIfInBounds xi true).getD j false = false ↔ (j ∈ (l ++ r2).map (·.1) ∨ j = c)) := by
          intro j hj
          rw [hget xi j hil hj]
          by_cases hjx : j = xi
          · subst hjx
            simp only [if_true]
            exact ⟨fun h => (by cases h), fun h => h.elim (fun h => absurd h hnd'.1) (fun h => absurd h hic)⟩
          · rw [if_neg hjx, hlist j hj]
            simp [hjx]
        have hnext : ∀ a' w' G', Sim n w0 S0 (C.add (p0 + xi)) G' (e.app σ) a' w' → wpAny P .any ops Q fuel (listed.setIfInBounds xi true) a' w' := by
          intro a' w' G' hs'
          refine ih (C := C.add (p0 + xi)) hr' hok'.add hs' hnd'.2 ?_ (drawOk_drop hdraw) hsz' (hcl' xi o ho hpre hil) (by simp at hfuel ⊢; omega) hlist' (fun y hy => hlt y (hsub y hy)) hback ?_
          · rintro y hy (hm | hm)
            · exact hM y (hsub y hy) hm
            · have : y.1 = xi := by omega
              exact hnd'.1 (List.mem_map.2 ⟨y, hy, this⟩)
          · intro a'' w'' G'' M' hM' hs''
            refine hQ a'' w'' G'' M' (fun j hj => ?_) hs''
            rcases hM' j hj with (h1 | h1) | ⟨y, hy, h1⟩
            · exact .inl h1
            · exact .inr ⟨(xi, e), by simp, h1⟩
            · exact .inr ⟨y, hsub y hy, h1⟩
        have hthis := hstep (wpAny P .any ops Q fuel (listed.setIfInBounds xi true)) Q hnext
        unfold wpOp
        simp only [ho]
        split
        · rename_i hw; rw [if_pos hw] at hthis; exact .inl hthis
        · rename_i hw; rw [if_neg hw] at hthis; exact hthis
end
end Go.Eng
/- A call that makes something new, handed to a call that writes over it. -/
namespace Go.Eng
open Go Go.RowKit

/-- A function's contract: it gives Φ of what its arguments read as, in new blocks alone; whatever was there stays as it was. -/
structure FreshFn (P : Program) (f : Nat) (params : List Ty) (res : Ty) (Pre : List D → Prop) (Φ : List D → D) : Prop where
  enter : ∀ (args : Array Value) (w : World), (callFunc f args).run P w = .ok (.enter f args) w
  calls : ∀ (w : World) (S : Foot) (vs : List Value) (ds : List D), (∀ b o, S b o → b < w.heap.size) → vs.length = ds.length → (∀ (i : Nat) v d, vs[i]? = some v → ds[i]? = some d → Rep w S v d) →
    HasL (.ofL params) ds → Pre ds →
    Calls P f vs.toArray w fun e w' => ∃ v F, e = .returned v ∧ Below w.heap.size w w' ∧ (∀ b o, F b o → w.heap.size ≤ b ∧ b < w'.heap.size ∧ ∃ cur T, w'.heap[b]? = some (.cells cur T (0, 0))) ∧ Rep w' F v (Φ ds) ∧ Has res (Φ ds)
/-- A function's contract: it may write over what it is handed; it gives something of its result's type. -/
structure WildFn (P : Program) (f : Nat) (params : List Ty) (res : Ty) : Prop where
  enter : ∀ (args : Array Value) (w : World), (callFunc f args).run P w = .ok (.enter f args) w
  calls : ∀ (w : World) (S : Foot) (vs : List Value) (ds : List D), (∀ b o, S b o → b < w.heap.size ∧ ∃ cur T, w.heap[b]? = some (.cells cur T (0, 0))) → vs.length = ds.length → (∀ (i : Nat) v d, vs[i]? = some v → ds[i]? = some d → Rep w S v d) →
    HasL (.ofL params) ds →
    Calls P f vs.toArray w fun e w' => ∃ v S' d, e = .returned v ∧ BelowX (fun b => ∃ o, S b o) w w' ∧ (∀ b o, S' b o → (∃ o', S b o') ∨ w.heap.size ≤ b) ∧
      (∀ b o, S' b o → b < w'.heap.size ∧ ∃ cur T, w'.heap[b]? = some (.cells cur T (0, 0))) ∧ Rep w' S' v d ∧ Has res d

structure CpOp where
  k1 : Nat
  args : E
  t1 : Nat
  t2 : Nat
  e2 : E
  ty2 : Ty
  k2 : Nat
  t3 : Nat
  res : Ty

abbrev FTbl := List (Nat × (List Ty × Ty))
def notTmp (t : Nat) : Operand → Bool
  | .tmp u => u != t
  | _ => true
def cpOp (P : Program) (fw wl : FTbl) (n : Nat) (σ : St) (ops : Array Oper) (c : Nat) : Option CpOp :=
  match ops[c]?, ops[c + 1]?, ops[c + 2]? with
  | some ⟨some t1, .call { callee := .value (.func k1), args, argTypes }, _, _, _, none⟩, some ⟨some t2, .move x, _, _, _, none⟩, some ⟨some t3, .call { callee := .value (.func k2), args := args2, .. }, _, _, _, none⟩ =>
    match args2.toList, argsE P σ [] args.toList argTypes.toList, getV P σ [] x 0, lk fw k1, lk wl k2 with
    | [.tmp u1, .tmp u2], some es, some (.one (.dat e2 ty2)), some (ps1, r1), some (ps2, r2) =>
      if u1 = t1 ∧ u2 = t2 ∧ t1 ≠ t2 ∧ t1 < n ∧ t2 < n ∧ t3 < n ∧ ty2.bare = true ∧ es.map (·.2) = ps1 ∧ ps2 = [r1, ty2] ∧ notTmp t1 x = true then some ⟨k1, .ofL (es.map (·.1)), t1, t2, e2, ty2, k2, t3, r2⟩ else none
    | _, _, _, _, _ => none
  | _, _, _ => none
def CpOp.after (x : CpOp) (σ : St) (q : Nat) : St :=
  ⟨fun t => if t = x.t3 then some ([], .one (.dat (.var q) x.res)) else if t = x.t2 then some ([], .one (.dat x.e2 x.ty2)) else if t = x.t1 then none else σ.tm t, σ.hp, σ.live⟩

section
variable {P : Program} {w w0 : World} {S0 : Base} {ρ : Nat → D} {p : Nat} {G : Gh} {σ : St} {a : Act} {n : Nat}
theorem wpOps_step {ops : Array Oper} {o : Oper} {i : Nat} {rest : List Nat} {Q : Exit → Act → World → Prop} (ho : ops[i]? = some o) (hg : o.guard = none) (h : o.wp P a w (wpOps P ops Q rest) Q) : wpOps P ops Q (i :: rest) a w := by
  simp only [wpOps, ho]
  rw [if_pos (by unfold Region.wanted; rw [hg])]
  exact .inl h
theorem cpOp_ok {fw wl : FTbl} {ops : Array Oper} {c : Nat} {x : CpOp} {Φ : Nat → List D → D} (h : cpOp P fw wl n σ ops c = some x) (hs : Sim n w0 S0 ⟨ρ, p, fun i => i < p⟩ G σ a w)
    (hfw : ∀ k y, lk fw k = some y → FreshFn P k y.1 y.2 (fun _ => True) (Φ k)) (hwl : ∀ k y, lk wl k = some y → WildFn P k y.1 y.2) (hnf : ¬ S0.fr) (hnw : ¬ S0.wz) (e0 : D) (rest : List Nat) (Q : Exit → Act → World → Prop)
    (hQ : ∀ d a' w' G', Has x.res d → Sim n w0 S0 ⟨upd (upd ρ p e0) (p + 2) d, p + 3, fun i => i < p + 3⟩ G' (x.after σ (p + 2)) a' w' → wpOps P ops Q rest a' w') :
    wpOps P ops Q (c :: (c + 1) :: (c + 2) :: rest) a w := by
  unfold cpOp at h
  split at h
  · rename_i t1 k1 args argTypes ty0 pos0 af0 t2 y ty1 pos1 af1 t3 k2 args2 ats2 ty3 pos3 af3 ho0 ho1 ho2
    split at h
    · rename_i u1 u2 es e2 ty2 ps1 r1 ps2 r2 ha2 hes hy hk1 hk2
      split at h
      · rename_i hc
        obtain ⟨rfl, rfl, hne, hl1, hl2, hl3, hbr, hps1, hps2, hnt⟩ := hc
        injection h with h; subst h
        have hF := hfw k1 _ hk1
        have hW := hwl k2 _ hk2
        obtain ⟨k1', k2'⟩ := argsE_ok hs.t (pc := []) rfl hes
        have hlen : (args.toList.map a.eval).length = (es.map fun y => den ρ y.1).length := by simp [k1']
        have hrep : ∀ (i : Nat) v d, (args.toList.map a.eval)[i]? = some v → (es.map fun y => den ρ y.1)[i]? = some d → Rep w G.S v d := by
          intro i v d hv hd
          simp only [List.getElem?_map, Option.map_eq_some_iff] at hv hd
          obtain ⟨z, hz, rfl⟩ := hv
          obtain ⟨z', hz', rfl⟩ := hd
          exact (k2' i z z' hz hz').1
        have hhas : HasL (.ofL ps1) (es.map fun y => den ρ y.1) := by
          rw [← hps1]
          refine hasL_mk (by simp) fun j u z hj hz => ?_
          simp only [List.getElem?_map, Option.map_eq_some_iff] at hj hz
          obtain ⟨z1, hz1, rfl⟩ := hj
          obtain ⟨z2, hz2, rfl⟩ := hz
          rw [hz1] at hz2; injection hz2 with hz2; subst hz2
          have hjl : j < args.toList.length := by rw [← k1']; exact (List.getElem?_eq_some_iff.1 hz1).1
          exact (k2' j _ z1 (List.getElem?_eq_getElem hjl) hz1).2
        obtain ⟨y1, y2, y3⟩ := getV_ok hs.t (pc := []) rfl hy
        obtain ⟨vy, hvy⟩ : ∃ vy, vy = a.eval y := ⟨_, rfl⟩
        rw [← hvy] at y2
        -- the first call
        have hrun0 : (execOp a.eval ⟨some u1, .call { callee := .value (.func k1), args, argTypes }, ty0, pos0, af0, none⟩).run P w = .ok (.enter k1 (args.map a.eval)) w := by
          unfold execOp
          have := hF.enter (args.map a.eval) w
          simpa [resolve, Act.eval, Deferred.ofValue, invoke] using this
        have hargs : (args.toList.map a.eval).toArray = args.map a.eval := by apply Array.ext'; simp
        have hcall := hF.calls w G.S _ _ hs.m.footlt hlen hrep hhas trivial
        rw [hargs] at hcall
        refine wpOps_step ho0 rfl ?_
        rw [Oper.wp, hrun0]
        refine hcall.mono ?_
        rintro e w1 ⟨v1, F, rfl, hbel, hF1, hrv1, hhv1⟩
        simp only
        -- the move
        refine wpOps_step ho1 rfl ?_
        have hey : (a.put (some u1) v1).eval y = vy := by
          rw [hvy]
          cases y with
          | tmp t =>
            have hne2 : t ≠ u1 := by simpa [notTmp] using hnt
            simp only [Act.eval, Act.put]
            rw [Array.getD_eq_getD_getElem?, Array.getD_eq_getD_getElem?, Array.getElem?_setIfInBounds_ne (Ne.symm hne2)]
          | _ => rfl
        have hrun1 : (execOp (a.put (some u1) v1).eval ⟨some u2, .move y, ty1, pos1, af1, none⟩).run P w1 = .ok (.value vy) w1 := by
          unfold execOp; rw [← hey]; rfl
        rw [Oper.wp, hrun1]
        show wpOps P ops Q ((c + 2) :: rest) ((a.put (some u1) v1).put (some u2) vy) w1
        refine wpOps_step ho2 rfl ?_
        have hsz := hs.sz
        have hs1 : (a.put (some u1) v1).tmps.size = n := by rw [Act.put_size]; exact hsz
        have g1 : ((a.put (some u1) v1).put (some u2) vy).tmps[u1]? = some v1 := by
          simp only [Act.put]
          rw [Array.getElem?_setIfInBounds_ne (Ne.symm hne)]
          simp [hsz, hl1]
        have g2 : ((a.put (some u1) v1).put (some u2) vy).tmps[u2]? = some vy := by
          simp only [Act.put]
          simp [hsz, hl2]
        have hev : args2.map ((a.put (some u1) v1).put (some u2) vy).eval = #[v1, vy] := by
          apply Array.ext'
          rw [Array.toList_map, ha2]
          simp [Act.eval, g1, g2]
        have hrun2 : (execOp ((a.put (some u1) v1).put (some u2) vy).eval ⟨some t3, .call { callee := .value (.func k2), args := args2, argTypes := ats2 }, ty3, pos3, af3, none⟩).run P w1 = .ok (.enter k2 #[v1, vy]) w1 := by
          unfold execOp
          have := hW.enter #[v1, vy] w1
          have h2 : (callFunc k2 (args2.map ((a.put (some u1) v1).put (some u2) vy).eval)).run P w1 = .ok (.enter k2 #[v1, vy]) w1 := by rw [hev]; exact this
          simpa [resolve, Act.eval, Deferred.ofValue, invoke] using h2
        rw [Oper.wp, hrun2]
        refine (hW.calls w1 F [v1, vy] [Φ k1 (es.map fun y => den ρ y.1), den ρ e2] (fun b o hb => (hF1 b o hb).2) rfl (by
          intro i v d hv hd
          match i with
          | 0 => simp at hv hd; subst hv; subst hd; exact hrv1
          | 1 => simp at hv hd; subst hv; subst hd; exact rep_bare hbr y3 y2
          | i + 2 => simp at hv) (by
          rw [hps2]
          exact has_cons.2 ⟨_, _, rfl, hhv1, has_cons.2 ⟨_, _, rfl, y3, has_nil.2 rfl⟩⟩)).mono ?_
        rintro e w2 ⟨v2, S2, d2, rfl, hbx, hS2, hS2lt, hrv2, hhv2⟩
        simp only
        have hbel2 : Below w.heap.size w w2 := by
          refine ⟨hbx.os.trans hbel.os, hbx.tape.trans hbel.tape, hbx.output.trans hbel.output, Nat.le_trans hbel.size hbx.size, fun k hk => (hbx.block k (Nat.lt_of_lt_of_le hk hbel.size) ?_).trans (hbel.block k hk)⟩
          rintro ⟨o, ho⟩
          have := (hF1 k o ho).1
          omega
        have hS2n : ∀ b o, S2 b o → w.heap.size ≤ b := by
          intro b o hb
          rcases hS2 b o hb with ⟨o', h'⟩ | h'
          · exact (hF1 b o' h').1
          · exact Nat.le_trans hbel.size h'
        let G' : Gh := { S := fun b o => G.S b o ∨ S2 b o, β := G.β, τ := fun g => if g.1 = p then (fun _ => Value.nilIface) g.2 else G.τ g }
        have hpM : ¬ (⟨ρ, p, fun i => i < p⟩ : Cx).M p := Nat.lt_irrefl p
        obtain ⟨hlat, hm⟩ := hs.m.called (p := p) hpM (S' := G'.S) (τ' := fun _ => .nilIface) hbel2 (fun _ _ h => .inl h)
          (by
            rintro b o (h | h)
            · exact Nat.lt_of_lt_of_le (hs.m.footlt b o h) hbel2.size
            · exact (hS2lt b o h).1)
          (by
            rintro b o (h | h)
            · exact .inl h
            · exact .inr (hS2n b o h))
          σ.live G' rfl (fun g z hz => .inl ⟨fun e => hpM (e ▸ (hs.m.own g z.1 z.2.1 z.2.2 hz).m), hz⟩)
          (fun j k z z' b hz _ _ _ => absurd ((hs.m.own _ z.1 z.2.1 z.2.2 hz).m) hpM) (fun hff => absurd hff hnf) hnw
        have hag : ∀ i, i < p → upd (upd ρ p e0) (p + 2) d2 i = ρ i := fun i hi => (upd_ne _ _ (by omega)).trans (upd_ne _ _ (by omega))
        have hlat2 : Later ((⟨ρ, p, fun i => i < p⟩ : Cx).add p) w2 G' ⟨upd (upd ρ p e0) (p + 2) d2, p + 3, fun i => i < p + 3⟩ w2 G' :=
          ⟨fun e he => ⟨den_agree hag he, E.lt_mono' (by show p ≤ p + 3; omega) he⟩, fun i hi => by
            rcases hi with hi | hi
            · exact Nat.lt_of_lt_of_le hi (by omega)
            · show i < p + 3; omega, fun _ _ h => h, fun _ _ _ => rfl, fun _ _ => rfl, fun _ _ => rfl⟩
        have hm2 := (hm.later_same hlat2).congr (σ' := CpOp.after ⟨k1, .ofL (es.map (·.1)), u1, u2, e2, ty2, k2, t3, r2⟩ σ (p + 2)) rfl rfl
        have ht2 := hs.t.later (hlat.trans hlat2)
        refine hQ d2 _ w2 G' hhv2 ⟨hm2, ?_, by rw [Act.put_size, Act.put_size]; exact hs1, hs.defers⟩
        have hput : ∀ (a' : Act) (u : Nat) (v : Value) (t : Nat), t ≠ u → (a'.put (some u) v).tmps[t]? = a'.tmps[t]? := by
          intro a' u v t ht
          simp only [Act.put]
          rw [Array.getElem?_setIfInBounds_ne (Ne.symm ht)]
        intro t cc s hts
        simp only [CpOp.after] at hts
        split at hts
        · rename_i ht3
          subst ht3
          simp only [Option.some.injEq, Prod.mk.injEq] at hts
          obtain ⟨rfl, rfl⟩ := hts
          refine ⟨v2, ?_, by simp, by simp [SV.lt, SC.lt, E.lt], ?_⟩
          · have h9 : ((a.put (some u1) v1).put (some u2) vy).tmps.size = n := by rw [Act.put_size]; exact hs1
            simp only [Act.put] at h9 ⊢
            simp at h9
            simp [h9, hl3]
          · simp only [condB, List.all_nil, if_true]
            have hd : den (upd (upd ρ p e0) (p + 2) d2) (.var (p + 2)) = d2 := upd_same _ _ _
            exact ⟨by simp [E.lt], by show Rep w2 G'.S v2 (den (upd (upd ρ p e0) (p + 2) d2) _); rw [hd]; exact hrv2.keep (fun _ _ h => .inr h) (fun _ _ _ => rfl), by show Has r2 (den (upd (upd ρ p e0) (p + 2) d2) _); rw [hd]; exact hhv2⟩
        · rename_i hnt3
          split at hts
          · rename_i htt
            subst htt
            simp only [Option.some.injEq, Prod.mk.injEq] at hts
            obtain ⟨rfl, rfl⟩ := hts
            refine ⟨vy, by rw [hput _ _ _ _ hnt3]; exact g2, by simp, E.lt_mono' (by show p ≤ p + 3; omega) y1, ?_⟩
            simp only [condB, List.all_nil, if_true]
            have hde : den (upd (upd ρ p e0) (p + 2) d2) e2 = den ρ e2 := den_agree hag y1
            exact ⟨E.lt_mono' (by show p ≤ p + 3; omega) y1, by show Rep w2 G'.S _ (den (upd (upd ρ p e0) (p + 2) d2) e2); rw [hde]; exact rep_bare hbr y3 y2, by show Has _ (den (upd (upd ρ p e0) (p + 2) d2) e2); rw [hde]; exact y3⟩
          · rename_i hntt
            split at hts
            · cases hts
            · rename_i hnt1
              obtain ⟨v, q1, q2, q3, q4⟩ := ht2 t cc s hts
              exact ⟨v, by rw [hput _ _ _ _ hnt3, hput _ _ _ _ hntt, hput _ _ _ _ hnt1]; exact q1, q2, q3, q4⟩
      · cases h
    · cases h
  · cases h
end
end Go.Eng
/- A region's end: a test whether a slice is nil; a call that writes over all that is read, whose result is stored into a variable. -/
namespace Go.Eng
open Go Go.RowKit

def nilOperand : Operand → Bool
  | .const (.slice none 0 0) => true
  | _ => false
/-- A test whether a slice is nil: where; the slice. -/
def nqOp (P : Program) (n q : Nat) (σ : St) (o : Oper) : Option (Nat × E) :=
  match o.dst, o.guard, o.op with
  | some t, none, .binOp .eql T x y _ =>
    if nilOperand y = true ∧ t < n then
      match getD_ P σ [] x T, P.underlying T with
      | some (e, .list _), some (.slice _) => if e.lt q then some (t, e) else none
      | _, _ => none
    else none
  | _, _, _ => none
def setT (σ : St) (t : Nat) (c : SC) : St := ⟨upd σ.tm t (some ([], .one c)), σ.hp, σ.live⟩

structure WsOp where
  t3 : Nat
  id : Nat
  f : Ty
def isSc (t : Ty) : Bool := t.scalar
def wsOp (P : Program) (wl : FTbl) (n : Nat) (σ : St) (o1 o2 : Oper) : Option WsOp :=
  match o1.dst, o1.guard, o1.op, o2.dst, o2.guard, o2.op with
  | some t3, none, .call { callee := .value (.func k2), args, argTypes }, none, none, .store T x (.tmp t3') =>
    match argsE P σ [] args.toList argTypes.toList, lk wl k2, getV P σ [] x T, sizeT P T with
    | some es, some (ps, .agg f), some (.one (.adr id 0)), some sz =>
      match σ.hp id with
      | some (false, old) => if mapOf old = none ∧ t3' = t3 ∧ t3 < n ∧ es.map (·.2) = ps ∧ old.length = f.toL.length ∧ f.toL.all isSc = true ∧ sz = f.toL.length ∧ notTmp t3 x = true ∧ P.underlying T ≠ none then some ⟨t3, id, f⟩ else none
      | _ => none
    | _, _, _, _ => none
  | _, _, _, _, _, _ => none
def varCellsQ (q : Nat) (fs : List Ty) : List SC := (cellsE (.var q) 0 fs).map fun x => .dat x.1 x.2
def WsOp.after (x : WsOp) (σ : St) (q : Nat) : St :=
  ⟨fun t => if t = x.t3 then none else hvTm σ.tm t, fun i => if i = x.id then some (false, varCellsQ q x.f.toL) else none, fun _ => none⟩

section
variable {P : Program} {w w0 : World} {S0 : Base} {ρ : Nat → D} {p : Nat} {G : Gh} {σ : St} {a : Act} {n : Nat}

theorem run_equalIn_nilsl {t el : TypeId} (hu : P.underlying t = some (.slice el)) (p : Option Addr) (m c d : Nat) : (Op.equalIn (d + 1) t (.slice p m c) (.slice none 0 0)).run P w = .ok p.isNone w := by
  cases p <;> simp [Op.equalIn, run_underlying hu]
theorem run_eq_nilsl {t el : TypeId} (hu : P.underlying t = some (.slice el)) (p : Option Addr) (m c : Nat) (x y : Operand) :
    (do eqGuard .eql t x y (.slice p m c) (.slice none 0 0); binOp .eql t (.slice p m c) (.slice none 0 0) : Sem Value).run P w = .ok (.bool p.isNone) w := by
  have h1 : binOp .eql t (.slice p m c) (.slice none 0 0) = (do pure (.bool (← Op.equalIn (9999 + 1) t (.slice p m c) (.slice none 0 0)))) := rfl
  have h2 : eqGuard .eql t x y (.slice p m c) (.slice none 0 0) = pure () := rfl
  rw [h1, h2, Sem.run_bind, Sem.run_pure, Result.andThen_ok, Sem.run_bind, run_equalIn_nilsl hu]; rfl

theorem rep_none {w : World} {S : Foot} {m c : Nat} {l : List D} (h : Rep w S (.slice none m c) (.list l)) : l.length = 0 := by
  generalize hv : Value.slice none m c = v at h
  generalize hd : D.list l = d at h
  cases h <;> first
    | (cases hd; done)
    | (injection hd with hd; subst hd; rfl)
    | cases hv

/-- One more variable. -/
theorem Sim.setVar (hs : Sim n w0 S0 ⟨ρ, p, fun i => i < p⟩ G σ a w) (d : D) {t : Nat} (ht : t < n) {v : Value} {c : SC} (hl : c.lt (p + 1) = true) (hc : RSC ⟨upd ρ p d, p + 1, fun i => i < p + 1⟩ w G c v) :
    Sim n w0 S0 ⟨upd ρ p d, p + 1, fun i => i < p + 1⟩ G (setT σ t c) (a.put (some t) v) w := by
  have hag : ∀ i, i < p → upd ρ p d i = ρ i := fun i hi => upd_ne _ _ (by omega)
  have hlat : Later ⟨ρ, p, fun i => i < p⟩ w G ⟨upd ρ p d, p + 1, fun i => i < p + 1⟩ w G :=
    ⟨fun e he => ⟨den_agree hag he, E.lt_mono' (Nat.le_succ p) he⟩, fun i hi => Nat.lt_succ_of_lt hi, fun _ _ h => h, fun _ _ _ => rfl, fun _ _ => rfl, fun _ _ => rfl⟩
  have h1 := hs.later_same hlat
  refine ⟨h1.m.congr rfl rfl, ?_, by rw [Act.put_size]; exact hs.sz, hs.defers⟩
  intro t' c' s hts
  simp only [setT] at hts
  by_cases htt : t' = t
  · subst htt
    simp only [upd_same, Option.some.injEq, Prod.mk.injEq] at hts
    obtain ⟨rfl, rfl⟩ := hts
    refine ⟨v, ?_, by simp, hl, ?_⟩
    · have := hs.sz
      simp [Act.put, this, ht]
    · simp only [condB, List.all_nil, if_true]
      exact hc
  · rw [upd_ne _ _ htt] at hts
    obtain ⟨u, q1, q2, q3, q4⟩ := h1.t t' c' s hts
    refine ⟨u, ?_, q2, q3, q4⟩
    simp only [Act.put]
    rw [Array.getElem?_setIfInBounds_ne (Ne.symm htt)]
    exact q1

theorem nqOp_ok {ops : Array Oper} {c t : Nat} {o : Oper} {e : E} (ho : ops[c]? = some o) (h : nqOp P n p σ o = some (t, e)) (hs : Sim n w0 S0 ⟨ρ, p, fun i => i < p⟩ G σ a w) (Q : Exit → Act → World → Prop) (rest : List Nat)
    (h1 : (den ρ e).toL.length = 0 → ∀ b : Bool, ∀ a', Sim n w0 S0 ⟨upd ρ p (.bool b), p + 1, fun i => i < p + 1⟩ G (setT σ t (.dat (.var p) .bool)) a' w → wpOps P ops Q rest a' w)
    (h2 : (den ρ e).toL.length ≠ 0 → ∀ a', Sim n w0 S0 ⟨upd ρ p (.bool false), p + 1, fun i => i < p + 1⟩ G (setT σ t (.dat (.kbool false) .bool)) a' w → wpOps P ops Q rest a' w) :
    wpOps P ops Q (c :: rest) a w := by
  unfold nqOp at h
  split at h
  · rename_i t0 T x y yt hd hg hop
    split at h
    · rename_i hny
      obtain ⟨hny, htn⟩ := hny
      have hyc : y = .const (.slice none 0 0) := by
        unfold nilOperand at hny
        split at hny
        · rfl
        · cases hny
      subst hyc
      split at h
      · rename_i e' u el hx hu
        split at h
        · injection h with h; simp only [Prod.mk.injEq] at h; obtain ⟨rfl, rfl⟩ := h
          obtain ⟨x1, x2, x3⟩ := getD_ok hs.t (pc := []) rfl hx
          obtain ⟨l, hl, _⟩ := has_list.1 x3
          have hlr : den ρ e' = .list l := hl
          have x2' : Rep w G.S (a.eval x) (.list l) := by rw [← hlr]; exact x2
          obtain ⟨A, cap, hv⟩ := x2'.inv_list
          have hrun : (execOp a.eval o).run P w = .ok (.value (.bool A.isNone)) w := by
            have hexec : (execOp a.eval o) = (do let v ← (do eqGuard .eql T x (.const (.slice none 0 0)) (a.eval x) (a.eval (.const (.slice none 0 0))); binOp .eql T (a.eval x) (a.eval (.const (.slice none 0 0))) : Sem Value); pure (.value v)) := by unfold execOp; simp only [hop]
            have he : a.eval (.const (.slice none 0 0)) = .slice none 0 0 := rfl
            have h3 := run_eq_nilsl (P := P) (w := w) hu A l.length cap x (.const (.slice none 0 0))
            rw [hexec, he, hv, Sem.run_bind, h3]; rfl
          refine wpOps_step ho hg ?_
          rw [Oper.wp, hrun]
          show wpOps P ops Q rest (a.put o.dst (.bool A.isNone)) w
          rw [hd]
          by_cases hl0 : l.length = 0
          · refine h1 (by rw [hlr]; exact hl0) A.isNone _ (hs.setVar _ htn (by simp [SC.lt, E.lt]) ⟨by simp [E.lt], ?_, ?_⟩)
            · show Rep w G.S _ (upd ρ p (.bool A.isNone) p)
              rw [upd_same]; exact .bool _
            · show Has .bool (upd ρ p (.bool A.isNone) p)
              rw [upd_same]; exact has_bool.2 ⟨_, rfl⟩
          · have hA : A.isNone = false := by
              cases hA : A with
              | some _ => rfl
              | none =>
                exfalso
                rw [hA] at hv
                rw [hv] at x2'
                exact hl0 (rep_none x2')
            rw [hA]
            exact h2 (by rw [hlr]; exact hl0) _ (hs.setVar _ htn (by simp [SC.lt, E.lt]) ⟨by simp [E.lt], .bool _, has_bool.2 ⟨_, rfl⟩⟩)
        · cases h
      · cases h
    · cases h
  · cases h

theorem wsOp_ok {wl : FTbl} {ops : Array Oper} {c : Nat} {o1 o2 : Oper} {x : WsOp} (ho1 : ops[c]? = some o1) (ho2 : ops[c + 1]? = some o2) (h : wsOp P wl n σ o1 o2 = some x) (hs : Sim n w0 S0 ⟨ρ, p, fun i => i < p⟩ G σ a w)
    (hwl : ∀ k y, lk wl k = some y → WildFn P k y.1 y.2) (hfoot : ∀ b o, ¬ S0.foot b o) (hnf : ¬ S0.fr) (hwz : S0.wz) (rest : List Nat) (Q : Exit → Act → World → Prop)
    (hQ : ∀ d a' w' G', Has (.agg x.f) d → Sim n w0 S0 ⟨upd ρ p d, p + 1, fun i => i < p + 1⟩ G' (x.after σ p) a' w' → wpOps P ops Q rest a' w') :
    wpOps P ops Q (c :: (c + 1) :: rest) a w := by
  unfold wsOp at h
  split at h
  · rename_i t3 k2 args argTypes T xo t3' hd1 hg1 hop1 hd2 hg2 hop2
    split at h
    · rename_i es ps f id sz hes hk hx hsz
      split at h
      · rename_i old hid
        split at h
        · rename_i hcnd
          obtain ⟨hnm0, rfl, htn, hps, hol, hfs, hszf, hnt, hTu⟩ := hcnd
          injection h with h; subst h
          have hW := hwl k2 _ hk
          obtain ⟨k1, k2'⟩ := argsE_ok hs.t (pc := []) rfl hes
          have hlen : (args.toList.map a.eval).length = (es.map fun y => den ρ y.1).length := by simp [k1]
          have hrep : ∀ (i : Nat) v d, (args.toList.map a.eval)[i]? = some v → (es.map fun y => den ρ y.1)[i]? = some d → Rep w G.S v d := by
            intro i v d hv hd
            simp only [List.getElem?_map, Option.map_eq_some_iff] at hv hd
            obtain ⟨z, hz, rfl⟩ := hv
            obtain ⟨z', hz', rfl⟩ := hd
            exact (k2' i z z' hz hz').1
          have hhas : HasL (.ofL ps) (es.map fun y => den ρ y.1) := by
            rw [← hps]
            refine hasL_mk (by simp) fun j u z hj hz => ?_
            simp only [List.getElem?_map, Option.map_eq_some_iff] at hj hz
            obtain ⟨z1, hz1, rfl⟩ := hj
            obtain ⟨z2, hz2, rfl⟩ := hz
            rw [hz1] at hz2; injection hz2 with hz2; subst hz2
            have hjl : j < args.toList.length := by rw [← k1]; exact (List.getElem?_eq_some_iff.1 hz1).1
            exact (k2' j _ z1 (List.getElem?_eq_getElem hjl) hz1).2
          have hargs : (args.toList.map a.eval).toArray = args.map a.eval := by apply Array.ext'; simp
          have hrun1 : (execOp a.eval o1).run P w = .ok (.enter k2 (args.map a.eval)) w := by
            unfold execOp
            have := hW.enter (args.map a.eval) w
            simpa [hop1, resolve, Act.eval, Deferred.ofValue, invoke] using this
          obtain ⟨hbx0, hsc0, hblk0, hnS⟩ := hs.m.box _ _ _ hid
          obtain ⟨vs, T0, hg', hr⟩ := hblk0.cells hnm0
          simp only [Bool.false_eq_true, if_false] at hnS
          have hxv := (getV_ok hs.t (pc := []) rfl hx).2
          have hcall := hW.calls w G.S _ _ (fun b o hb => ⟨hs.m.footlt b o hb, hs.m.wz hwz b o hb⟩) hlen hrep hhas
          rw [hargs] at hcall
          refine wpOps_step ho1 hg1 ?_
          rw [Oper.wp, hrun1]
          refine hcall.mono ?_
          rintro e w1 ⟨v, S', d, rfl, hbel, hS', hS'lt, hrv, hhv⟩
          show wpOps P ops Q ((c + 1) :: rest) (a.put o1.dst v) w1
          rw [hd1]
          obtain ⟨l, rfl, hl, cs, rfl, hcl, hcr⟩ := hrv.aggOf hhv
          have hblt : G.β id < w.heap.size := (getElem?_eq_some_iff.1 hg').1
          have hg1' : w1.heap[G.β id]? = some (.cells vs.toArray T0 (0, 0)) := by
            rw [hbel.block _ hblt (fun ⟨o, ho⟩ => hnS o ho)]; exact hg'
          have hll : l.length = f.toL.length := hasL_len hl
          have hone : ∀ u ∈ cs, u.oneCell' = true := by
            intro u hu
            obtain ⟨i, hi⟩ := List.getElem?_of_mem hu
            have hil : i < cs.length := (List.getElem?_eq_some_iff.1 hi).1
            have hfi : f.toL[i]? = some (f.toL[i]'(by omega)) := List.getElem?_eq_getElem _
            obtain ⟨y, hy, hyt⟩ := hasL_get hl i _ hfi
            exact (hcr i u y hi hy).oneCell hyt (List.all_eq_true.1 hfs _ (List.mem_of_getElem? hfi))
          have hcvs : cs.length = vs.length := by rw [hcl, hll, ← hol, hr.1]
          have hst := run_storeCells_at P (G.β id) 0 T0 cs 0 vs.toArray w1 hg1' (by simp [hcvs]) hone
          simp only [Nat.add_zero, Nat.zero_add, List.take_zero, List.nil_append] at hst
          have hdrop : vs.drop cs.length = [] := by rw [hcvs]; exact List.drop_length
          have hsz' : (a.put (some t3') (.agg cs.toArray)).tmps.size = n := by rw [Act.put_size]; exact hs.sz
          have hex : (a.put (some t3') (.agg cs.toArray)).eval xo = a.eval xo := by
            cases xo with
            | tmp t =>
              have hne2 : t ≠ t3' := by simpa [notTmp] using hnt
              simp only [Act.eval, Act.put]
              rw [Array.getD_eq_getD_getElem?, Array.getD_eq_getD_getElem?, Array.getElem?_setIfInBounds_ne (Ne.symm hne2)]
            | _ => rfl
          have hey : (a.put (some t3') (.agg cs.toArray)).eval (.tmp t3') = .agg cs.toArray := by
            have := hs.sz
            simp [Act.eval, Act.put, this, htn]
          obtain ⟨w2, hw2⟩ : ∃ w2, w2 = w1.setRow (G.β id) cs.toArray := ⟨_, rfl⟩
          have hrun2 : (execOp (a.put (some t3') (.agg cs.toArray)).eval o2).run P w1 = .ok .skip w2 := by
            have h1 := run_sizeT (P := P) (w := w1) hsz
            unfold execOp; simp only [hop2, hex, hey, hxv, Instr.storeAt, Instr.sureAddr]
            have h9 : (Value.agg cs.toArray).cells = cs.toArray := by
              simp [Value.cells]
            have e9 : sz = cs.length := by rw [hszf, ← hll, ← hcl]
            simp [storeVar, h1, h9, e9]
            simp [hdrop] at hst
            rw [hst, hw2]; rfl
          refine wpOps_step ho2 hg2 ?_
          rw [Oper.wp, hrun2]
          show wpOps P ops Q rest ((a.put (some t3') (.agg cs.toArray)).put o2.dst undef) w2
          have hheap : w2.heap[G.β id]? = some (.cells cs.toArray T0 (0, 0)) := by rw [hw2]; exact setRow_heap w1 _ _ _ T0 _ hg1'
          have hother : ∀ k, k ≠ G.β id → w2.heap[k]? = w1.heap[k]? := fun k hk => by rw [hw2]; exact setRow_other w1 _ k _ hk
          have hsize : w2.heap.size = w1.heap.size := by rw [hw2]; simp
          have hnS' : ∀ o, ¬ S' (G.β id) o := by
            intro o ho
            rcases hS' _ o ho with ⟨o', h'⟩ | h'
            · exact hnS o' h'
            · omega
          have hneS : ∀ b o, S' b o → b ≠ G.β id := fun b o hb he => hnS' o (he ▸ hb)
          have hrep2 : ∀ (i : Nat) u y, cs[i]? = some u → l[i]? = some y → Rep w2 S' u y := fun i u y hu hy =>
            (hcr i u y hu hy).keep (fun _ _ h => h) (fun b o hb => by simp only [World.cell?, hother b (hneS b o hb)])
          have hput2 : (a.put (some t3') (.agg cs.toArray)).put o2.dst undef = a.put (some t3') (.agg cs.toArray) := by rw [hd2]; rfl
          rw [hput2]
          have hag : ∀ i, i < p → upd ρ p (.agg l) i = ρ i := fun i hi => upd_ne _ _ (by omega)
          refine hQ (.agg l) _ w2 ⟨S', G.β, G.τ⟩ hhv ⟨⟨?_, fun b o h => absurd h (hfoot b o), fun b o h => absurd h (hfoot b o), fun i b hi => ⟨Nat.lt_succ_of_lt (hs.m.pin i b hi).1, (hs.m.pin i b hi).2⟩, fun _ _ _ => trivial, ?_, ?_, ?_, ?_, ?_, ?_, ?_, ?_, ?_, fun h => absurd h hnf, ?_⟩, ?_, hsz', hs.defers⟩
          · refine ⟨?_, ?_, ?_, ?_, fun k hk hm => ?_⟩
            · rw [hw2]; exact hbel.os.trans hs.m.below.os
            · rw [hw2]; exact hbel.tape.trans hs.m.below.tape
            · rw [hw2]; exact hbel.output.trans hs.m.below.output
            · rw [hsize]; exact Nat.le_trans hs.m.below.size hbel.size
            · have hkb : k ≠ G.β id := by
                rintro rfl
                rcases hbx0 with h | ⟨h, _⟩
                · omega
                · exact hm h
              rw [hother k hkb, hbel.block k (Nat.lt_of_lt_of_le hk hs.m.below.size) ?_]
              · exact hs.m.below.block k hk hm
              · rintro ⟨o, ho⟩
                rcases hs.m.footnew k o ho with h | h | h
                · exact hfoot k o h
                · omega
                · exact hm h
          · intro b o hb
            rw [hsize]; exact (hS'lt b o hb).1
          · intro b o hb
            rcases hS' b o hb with ⟨o', h'⟩ | h'
            · exact .inr ((hs.m.footnew b o' h').resolve_left (hfoot b o'))
            · exact .inr (.inl (Nat.le_trans hs.m.below.size h'))
          · intro i y hi
            simp only [WsOp.after] at hi
            split at hi
            · rename_i hii; subst hii
              exact Nat.lt_succ_of_lt (hs.m.boxM _ _ hid)
            · cases hi
          · intro i ro cs' hi
            simp only [WsOp.after] at hi
            split at hi
            · rename_i hii; subst hii
              simp only [Option.some.injEq, Prod.mk.injEq] at hi
              obtain ⟨rfl, rfl⟩ := hi
              have hvl : (varCellsQ p f.toL).length = f.toL.length := by unfold varCellsQ; rw [List.length_map]; exact cellsE_len _ _ _
              have hvg : ∀ (j : Nat) sc, (varCellsQ p f.toL)[j]? = some sc → ∃ ty, f.toL[j]? = some ty ∧ sc = .dat (.un (.cell j) (.var p)) ty := by
                intro j sc hj
                unfold varCellsQ at hj
                simp only [List.getElem?_map, Option.map_eq_some_iff] at hj
                obtain ⟨z, hz, rfl⟩ := hj
                rw [cellsE_get, Option.map_eq_some_iff] at hz
                obtain ⟨ty, h1, rfl⟩ := hz
                exact ⟨ty, h1, by rw [Nat.zero_add]⟩
              refine ⟨hbx0, ?_, BlkOk.mk (vs := cs) (T := T0) hheap ⟨?_, ?_⟩, ?_⟩
              · rw [List.all_eq_true]
                intro sc hsc
                obtain ⟨j, hj⟩ := List.getElem?_of_mem hsc
                obtain ⟨ty, h1, rfl⟩ := hvg j sc hj
                exact List.all_eq_true.1 hfs _ (List.mem_of_getElem? h1)
              · rw [hvl, hcl, hll]
              · intro j sc u hj hu
                obtain ⟨ty, h1, rfl⟩ := hvg j sc hj
                obtain ⟨y, hy, hyt⟩ := hasL_get hl j ty h1
                have hd : den (upd ρ p (.agg l)) (.un (.cell j) (.var p)) = y := by
                  show (U.cell j).den (upd ρ p (.agg l) p) = y
                  rw [upd_same]
                  exact toL_getD hy
                refine ⟨by simp [E.lt], ?_, ?_⟩
                · show Rep w2 S' u (den (upd ρ p (.agg l)) _)
                  rw [hd]; exact hrep2 j u y hu hy
                · show Has ty (den (upd ρ p (.agg l)) _)
                  rw [hd]; exact hyt
              · simp only [Bool.false_eq_true, if_false]
                exact hnS'
            · cases hi
          · intro i j y z hi hj _
            simp only [WsOp.after] at hi hj
            split at hi
            · rename_i h1
              split at hj
              · rename_i h2; rw [h1, h2]
              · cases hj
            · cases hi
          · intro g e T t h; cases h
          · intro g y b' h; cases h
          · intro g g' y z b' h; cases h
          · intro g id y z b' h; cases h
          · intro _ b o hb
            obtain ⟨h1, cur, T1, h2⟩ := hS'lt b o hb
            exact ⟨cur, T1, by rw [hother b (hneS b o hb)]; exact h2⟩
          · intro t c' s hts
            simp only [WsOp.after] at hts
            split at hts
            · cases hts
            · rename_i hnt3
              have hput : ∀ v, a.tmps[t]? = some v → (a.put (some t3') (.agg cs.toArray)).tmps[t]? = some v := by
                intro v hv
                simp only [Act.put]
                rw [Array.getElem?_setIfInBounds_ne (Ne.symm hnt3)]
                exact hv
              have keep : ∀ (s : SV), σ.tm t = some (c', s) → (∀ v, RSV ⟨ρ, p, fun i => i < p⟩ w G s v → RSV ⟨upd ρ p (.agg l), p + 1, fun i => i < p + 1⟩ w2 ⟨S', G.β, G.τ⟩ s v) → (s.lt p = true → s.lt (p + 1) = true) →
                  ∃ v, (a.put (some t3') (.agg cs.toArray)).tmps[t]? = some v ∧ (∀ y ∈ c', y.1.lt (p + 1) = true) ∧ s.lt (p + 1) = true ∧ if condB (upd ρ p (.agg l)) c' = true then RSV ⟨upd ρ p (.agg l), p + 1, fun i => i < p + 1⟩ w2 ⟨S', G.β, G.τ⟩ s v else v = undef := by
                intro s hst hk hl
                obtain ⟨v, h1, h2, h3, h4⟩ := hs.t t c' s hst
                refine ⟨v, hput v h1, fun y hy => E.lt_mono' (Nat.le_succ p) (h2 y hy), hl h3, ?_⟩
                rw [condB_agree' hag (List.all_eq_true.2 h2)]
                have h4' : if condB ρ c' = true then RSV ⟨ρ, p, fun i => i < p⟩ w G s v else v = undef := h4
                split
                · rename_i hc; rw [if_pos hc] at h4'; exact hk v h4'
                · rename_i hc; rw [if_neg hc] at h4'; exact h4'
              simp only [hvTm] at hts
              split at hts
              · rename_i c0 e ty hst
                split at hts
                · rename_i hbr
                  simp only [Option.some.injEq, Prod.mk.injEq] at hts
                  obtain ⟨rfl, rfl⟩ := hts
                  refine keep _ hst (fun v hv => ?_) (fun h => E.lt_mono' (Nat.le_succ p) h)
                  obtain ⟨k1, k2, k3⟩ := hv
                  have hde : den (upd ρ p (.agg l)) e = den ρ e := den_agree hag k1
                  exact ⟨E.lt_mono' (Nat.le_succ p) k1, by show Rep w2 S' v (den (upd ρ p (.agg l)) e); rw [hde]; exact rep_bare hbr k3 k2, by show Has ty (den (upd ρ p (.agg l)) e); rw [hde]; exact k3⟩
                · cases hts
              · rename_i c0 id' off hst
                simp only [Option.some.injEq, Prod.mk.injEq] at hts
                obtain ⟨rfl, rfl⟩ := hts
                exact keep _ hst (fun v hv => ⟨Nat.lt_succ_of_lt hv.1, hv.2⟩) (fun h => h)
              · rename_i c0 ty hst
                simp only [Option.some.injEq, Prod.mk.injEq] at hts
                obtain ⟨rfl, rfl⟩ := hts
                exact keep _ hst (fun v hv => hv) (fun h => h)
              · cases hts
        · cases h
      · cases h
    · cases h
  · cases h
end
end Go.Eng
/- What is walked: a function's body, or the body of a round of a loop over a function: the same rules. -/
namespace Go.Eng
open Go Go.RowKit

/-- In a function's own frame, or in a round's of loop l. -/
def WP (ro : Option Nat) (P : Program) (c : Code) (Q : Exit → Act → World → Prop) (a : Act) (w : World) : Prop :=
  match ro with
  | none => c.wp P Q a w
  | some l => c.wpIn (Fence.wide.inRound l) 0 P Q a w

def isDefer : Op → Bool
  | .defer _ => true
  | _ => false
/-- No 'defer' statement, no loop over a function. -/
def plainC : Code → Bool
  | .region _ ops _ => ops.toList.all fun o => !isDefer o.op
  | .seq a b => plainC a && plainC b
  | .cond _ a b => plainC a && plainC b
  | .block _ c | .loop c => plainC c
  | .skip | .label _ | .exit _ | .ret => true
  | _ => false

section
variable {P : Program} {ro : Option Nat} {Q : Exit → Act → World → Prop} {a : Act} {w : World}

theorem wide_depth {l n : Nat} (h : (Fence.wide.inRound l).depth.isSome = true) : 1 ≤ n := by simp [Fence.wide] at h
theorem uponIn_of {o : Oper} {l : Nat} {next : Act → World → Prop} {r : Result Next} (h : o.upon P a next Q r) : o.uponIn (Fence.wide.inRound l) 0 P a next Q r := by
  cases r with
  | ok x w' =>
    cases x <;> simp only [Oper.upon, Oper.uponIn] at h ⊢ <;> first
      | exact h
      | exact ⟨wide_depth, CallsIn.inRound l (callsIn_wide.2 h)⟩
      | exact ⟨wide_depth, fun c cs _ => let ⟨v, w2, r1, s⟩ := h c cs; ⟨v, w2, r1, stepsIn_wide.2 s⟩⟩
  | halt x w' => cases x <;> simp only [Oper.upon, Oper.uponIn] at h ⊢ <;> exact h

theorem opIn_of {o : Oper} {l : Nat} {next : Act → World → Prop} (hnd : isDefer o.op = false) (h : o.wp P a w next Q) : o.wpIn (Fence.wide.inRound l) 0 P a w next Q := by
  refine ⟨fun _ _ => trivial, ?_⟩
  rw [Oper.semAt_eq _ _ _ (fun c hc => by rw [hc] at hnd; cases hnd)]
  exact uponIn_of h

theorem opsIn_of {ops : Array Oper} {l : Nat} (hnd : (ops.toList.all fun o => !isDefer o.op) = true) (hout : ∀ a w, ¬ Q .outgrown a w) : ∀ (is : List Nat) (a : Act) (w : World), wpOps P ops Q is a w → wpOpsIn (Fence.wide.inRound l) 0 P ops Q is a w
  | [], a, w, h => h
  | i :: is, a, w, h => by
    simp only [wpOps, wpOpsIn] at h ⊢
    cases ho : ops[i]? with
    | none => simp only [ho] at h; exact opsIn_of hnd hout is a w h
    | some o =>
      simp only [ho] at h ⊢
      have hd : isDefer o.op = false := by
        have := List.all_eq_true.1 hnd o (by simpa using Array.mem_of_getElem? ho)
        simpa using this
      split
      · rename_i hw
        rw [if_pos hw] at h
        rcases h with h | ⟨_, a0, w0, h⟩
        · have h1 : o.wp P a w (wpOpsIn (Fence.wide.inRound l) 0 P ops Q is) Q := Oper.wp_mono (fun a w h => opsIn_of hnd hout is a w h) h
          exact opIn_of hd h1
        · exact absurd h (hout _ _)
      · rename_i hw
        rw [if_neg hw] at h
        exact ⟨fun _ _ => trivial, opsIn_of hnd hout is _ _ h⟩

theorem anyIn_of {ops : Array Oper} {l : Nat} {md : Region.Mode} (hnd : (ops.toList.all fun o => !isDefer o.op) = true) (hout : ∀ a w, ¬ Q .outgrown a w) : ∀ (fuel : Nat) (listed : Array Bool) (a : Act) (w : World), wpAny P md ops Q fuel listed a w → wpAnyIn (Fence.wide.inRound l) 0 P md ops Q fuel listed a w
  | 0, _, _, _, h => h
  | fuel + 1, listed, a, w, h => by
    refine ⟨h.1, fun i hi => ?_⟩
    have h1 := h.2 i hi
    unfold wpOp at h1
    unfold wpOpIn
    cases ho : ops[i]? with
    | none => simp only [ho] at h1 ⊢; exact anyIn_of hnd hout fuel _ _ _ h1
    | some o =>
      simp only [ho] at h1 ⊢
      have hd : isDefer o.op = false := by
        have := List.all_eq_true.1 hnd o (by simpa using Array.mem_of_getElem? ho)
        simpa using this
      split
      · rename_i hw
        rw [if_pos hw] at h1
        rcases h1 with h1 | ⟨_, a0, w0, h1⟩
        · exact opIn_of hd (Oper.wp_mono (fun a w h => anyIn_of hnd hout fuel _ a w h) h1)
        · exact absurd h1 (hout _ _)
      · rename_i hw
        rw [if_neg hw] at h1
        exact ⟨fun _ _ => trivial, anyIn_of hnd hout fuel _ _ _ h1⟩

/-- In a round: what is asked of the code, and of what is shown of it. -/
def RoOk (ro : Option Nat) (c : Code) (Q : Exit → Act → World → Prop) : Prop := ro.isSome = true → plainC c = true ∧ ∀ a w, ¬ Q .outgrown a w

theorem WP.mono {c : Code} {Q' : Exit → Act → World → Prop} (h : WP ro P c Q a w) (hq : ∀ e a w, Q e a w → Q' e a w) : WP ro P c Q' a w := by
  cases ro with
  | none => exact wp_mono h hq
  | some l => exact wpIn_mono h hq
theorem WP.skip (h : Q .normal a w) : WP ro P .skip Q a w := by
  cases ro with
  | none => exact wp_skip h
  | some l => exact wpIn_skip h
theorem WP.label {l : Nat} (h : Q .normal a w) : WP ro P (.label l) Q a w := by
  cases ro with
  | none => exact wp_label h
  | some l => exact wpIn_label h
theorem WP.exit {i : Nat} (h : Q (.exit i) a w) : WP ro P (.exit i) Q a w := by
  cases ro with
  | none => exact wp_exit h
  | some l => exact wpIn_exit h
theorem WP.ret (h : Q .ret a w) : WP ro P .ret Q a w := by
  cases ro with
  | none => exact wp_ret h
  | some l => exact wpIn_ret h
theorem WP.seq {x y : Code} (h : WP ro P x (Exit.then (WP ro P y Q) Q) a w) : WP ro P (.seq x y) Q a w := by
  cases ro with
  | none => exact wp_seq h
  | some l => exact wpIn_seq h
theorem WP.cond {c : Operand} {x y : Code} {t : Bool} (hc : a.eval c = .bool t) (h : WP ro P (if t then x else y) Q a w) : WP ro P (.cond c x y) Q a w := by
  cases ro with
  | none => cases t with
    | true => exact wp_cond_true hc h
    | false => exact wp_cond_false hc h
  | some l => exact wpIn_cond hc h
theorem WP.block {i : Nat} {c : Code} (h : WP ro P c (Exit.inBlock i Q) a w) : WP ro P (.block i c) Q a w := by
  cases ro with
  | none => exact wp_block h
  | some l => exact wpIn_block h
theorem WP.loop {c : Code} (I : Nat → Act → World → Prop) (n₀ : Nat) (h₀ : I n₀ a w)
    (round : ∀ n a w, I n a w → WP ro P c (Exit.then (fun a' w' => ∃ n', n' < n ∧ I n' a' w') Q) a w) : WP ro P (.loop c) Q a w := by
  cases ro with
  | none => exact wp_loop_ghost I n₀ h₀ round
  | some l => exact wpIn_loop_ghost I n₀ h₀ round
theorem WP.region {id : Nat} {ops : Array Oper} (hr : RoOk ro (.region id ops false) Q) (h : wpOps P ops Q (List.range ops.size) a w) : WP ro P (.region id ops false) Q a w := by
  cases ro with
  | none => exact wp_region h
  | some l =>
    obtain ⟨h1, h2⟩ := hr rfl
    exact wpIn_region (opsIn_of h1 h2 _ _ _ h)
theorem WP.region_any {id : Nat} {ops : Array Oper} (hr : RoOk ro (.region id ops true) Q) (hm : P.follows .mixedOrders = true)
    (h : wpAny P .any ops Q ops.size (Array.replicate ops.size false) a { w with drawn := w.drawn + 1 }) : WP ro P (.region id ops true) Q a w := by
  cases ro with
  | none => exact wp_region_any hm h
  | some l =>
    obtain ⟨h1, h2⟩ := hr rfl
    exact wpIn_region_any hm (anyIn_of h1 h2 _ _ _ _ h)
end
end Go.Eng
/- A state over another base: what was made so far is taken for given. Blocks that are no cells and no maps may turn. -/
namespace Go.Eng
open Go Go.RowKit

/-- A loop's record, or the block for its deferred calls. -/
def isBook : Obj → Bool
  | .loop _ => true
  | .deferred _ => true
  | _ => false

/-- Nothing turns but new blocks and book-keeping. -/
structure Turns (w0 : World) (S0 : Base) (w w' : World) : Prop where
  os : w'.os = w.os
  tape : w'.tape = w.tape
  output : w'.output = w.output
  size : w.heap.size ≤ w'.heap.size
  blk : ∀ k, k < w.heap.size → w'.heap[k]? = w.heap[k]? ∨ (NewB w0 S0 k ∧ ∃ o o', w.heap[k]? = some o ∧ isBook o = true ∧ w'.heap[k]? = some o' ∧ isBook o' = true)

theorem cell_book {w : World} {k o : Nat} {x : Obj} (h : w.heap[k]? = some x) (hb : isBook x = true) : w.cell? ⟨k, o, none⟩ = none := by
  unfold World.cell?
  rw [h]
  cases x <;> first | rfl | (simp [isBook] at hb)

section
variable {C : Cx} {w w0 w1 w' : World} {G : Gh} {S0 S1 : Base} {σ : St} {a : Act} {n : Nat}

theorem Turns.below (h : Below w.heap.size w w') : Turns w0 S0 w w' := ⟨h.os, h.tape, h.output, h.size, fun k hk => .inl (h.block k hk)⟩
theorem Turns.put {l : Nat} {o o' : Obj} (hN : NewB w0 S0 l) (h : w.heap[l]? = some o) (ho : isBook o = true) (ho' : isBook o' = true) : Turns w0 S0 w (w.putObj l o') := by
  have hl : l < w.heap.size := (Array.getElem?_eq_some_iff.1 h).1
  refine ⟨rfl, rfl, rfl, by simp, fun k hk => ?_⟩
  by_cases hkl : k = l
  · subst hkl
    exact .inr ⟨hN, o, o', h, ho, World.putObj_heap_same hl, ho'⟩
  · exact .inl (World.putObj_heap_other hkl)
theorem Turns.cells (h : Turns w0 S0 w w') {b : Nat} (hb : b < w.heap.size) (o : Nat) : w'.cell? ⟨b, o, none⟩ = w.cell? ⟨b, o, none⟩ := by
  rcases h.blk b hb with h1 | ⟨_, x, y, h1, h2, h3, h4⟩
  · exact World.cell?_of_block h1
  · rw [cell_book h1 h2, cell_book h3 h4]
theorem Turns.same (h : Turns w0 S0 w w') {b : Nat} (hb : b < w.heap.size) (hn : ∀ o, w.heap[b]? = some o → isBook o = false) : w'.heap[b]? = w.heap[b]? := by
  rcases h.blk b hb with h1 | ⟨_, x, y, h1, h2, _⟩
  · exact h1
  · rw [hn x h1] at h2; cases h2
theorem BlkOk.noBook {P : Program} {b : Nat} {cs : List SC} (h : BlkOk P C w G b cs) : ∀ o, w.heap[b]? = some o → isBook o = false := by
  intro o ho
  unfold BlkOk at h
  split at h
  · obtain ⟨_, _, hm⟩ := h
    obtain ⟨k, e, n, D0, h0, ⟨es, clock, h1, h2⟩, h3⟩ := hm.own
    rw [ho] at h1; injection h1 with h1; subst h1; rfl
  · obtain ⟨vs, T, h1, _⟩ := h
    rw [ho] at h1; injection h1 with h1; subst h1; rfl
theorem OwnOk.noBook {base : Nat} {g : Tag} {e : E} {T : TypeId} {t : Ty} (h : OwnOk C w base G g e T t) {b : Nat} (hb : (G.τ g).ownBlock = some b) : ∀ o, w.heap[b]? = some o → isBook o = false := by
  intro o ho
  obtain ⟨xs, l, _, hown, _⟩ := h.own
  rcases hown.2 with ⟨hv, _⟩ | ⟨b', cap, cur, hv, _, hg, _⟩
  · rw [hv] at hb; cases hb
  · rw [hv] at hb
    simp only [Value.ownBlock, Option.some.injEq] at hb
    subst hb
    rw [ho] at hg; injection hg with hg; subst hg; rfl

theorem Turns.later (h : SimM w0 S0 C G σ w) (t : Turns w0 S0 w w') : Later C w G C w' G :=
  ⟨fun _ h => ⟨rfl, h⟩, fun _ h => h, fun _ _ h => h, fun b o hs => t.cells (h.footlt b o hs) o, fun _ _ => rfl, fun _ _ => rfl⟩
theorem SimM.turns (h : SimM w0 S0 C G σ w) (t : Turns w0 S0 w w') (hnf : ¬ S0.fr) : SimM w0 S0 C G σ w' := by
  have hlat := t.later h
  refine ⟨?_, h.foot0, h.keep_later hlat, h.pin, h.pinmu, fun b o hs => Nat.lt_of_lt_of_le (h.footlt b o hs) t.size, h.footnew, h.boxM, ?_, h.inj, ?_, h.ownnew, h.ownne, h.ownbox, fun h => absurd h hnf, ?_⟩
  · refine ⟨t.os.trans h.below.os, t.tape.trans h.below.tape, t.output.trans h.below.output, Nat.le_trans h.below.size t.size, fun k hk hm => ?_⟩
    have hk' := Nat.lt_of_lt_of_le hk h.below.size
    rcases t.blk k hk' with h1 | ⟨h1 | h1, _⟩
    · exact h1.trans (h.below.block k hk hm)
    · omega
    · exact absurd h1 hm
  · intro id ro cs hx
    obtain ⟨h1, h2, h3, h5⟩ := h.box id ro cs hx
    exact ⟨h1, h2, h3.later hlat (t.same h3.lt h3.noBook), h5⟩
  · intro g e T ty hx
    have ho := h.own g e T ty hx
    exact ho.later hlat (fun b hb => t.same (ho.lt_heap b hb).2 (ho.noBook hb)) (fun _ _ _ h => h)
  · intro hz b o hs
    obtain ⟨cur, T, hc⟩ := h.wz hz b o hs
    exact ⟨cur, T, (t.same (h.footlt b o hs) (fun x hx => by rw [hc] at hx; injection hx with hx; subst hx; rfl)).trans hc⟩
theorem Sim.turns (h : Sim n w0 S0 C G σ a w) (t : Turns w0 S0 w w') (hnf : ¬ S0.fr) : Sim n w0 S0 C G σ a w' :=
  ⟨h.m.turns t hnf, h.t.later (t.later h.m), h.sz, h.defers⟩

/-- One base stands on another. -/
structure Ext (w0 : World) (S0 : Base) (w1 : World) (S1 : Base) : Prop where
  below : BelowX S0.mu w0 w1
  mu : ∀ b, S1.mu b → NewB w0 S0 b
  foot : ∀ b o, S0.foot b o → S1.foot b o
  footc : ∀ b o, S0.foot b o → w1.cell? ⟨b, o, none⟩ = w0.cell? ⟨b, o, none⟩
  footn : ∀ b o, S1.foot b o → S0.foot b o ∨ NewB w0 S0 b
  pin : ∀ i b, S0.pin i = some b → S1.pin i = some b
  pinb : ∀ i b, S1.pin i = some b → S1.mu b → BoxB w0 S0 b
  fr : S0.fr → S1.fr
  wz : S0.wz → S1.wz
  prog : S1.prog = S0.prog
theorem Ext.new (x : Ext w0 S0 w1 S1) {b : Nat} (h : NewB w1 S1 b) : NewB w0 S0 b := by
  rcases h with h | h
  · exact .inl (Nat.le_trans x.below.size h)
  · exact x.mu b h
theorem Ext.box (x : Ext w0 S0 w1 S1) {b : Nat} (h : BoxB w1 S1 b) : BoxB w0 S0 b := by
  rcases h with h | ⟨h, i, hi⟩
  · exact .inl (Nat.le_trans x.below.size h)
  · exact x.pinb i b hi h
theorem Ext.refl (w0 : World) (S0 : Base) : Ext w0 S0 w0 S0 := ⟨.refl _ _, fun _ h => .inr h, fun _ _ h => h, fun _ _ _ => rfl, fun _ _ h => .inl h, fun _ _ h => h, fun i _ h1 h2 => .inr ⟨h2, i, h1⟩, id, id, rfl⟩
theorem Ext.block (x : Ext w0 S0 w1 S1) {k : Nat} (hk : k < w0.heap.size) (hm : ¬ S0.mu k) : ¬ S1.mu k := by
  intro h
  rcases x.mu k h with h | h
  · omega
  · exact hm h
theorem Ext.trans {w2 : World} {S2 : Base} (x : Ext w0 S0 w1 S1) (y : Ext w1 S1 w2 S2) : Ext w0 S0 w2 S2 where
  below := ⟨y.below.os.trans x.below.os, y.below.tape.trans x.below.tape, y.below.output.trans x.below.output, Nat.le_trans x.below.size y.below.size, fun k hk hm => (y.below.block k (Nat.lt_of_lt_of_le hk x.below.size) (x.block hk hm)).trans (x.below.block k hk hm)⟩
  mu b h := x.new (y.mu b h)
  foot b o h := y.foot b o (x.foot b o h)
  footc b o h := (y.footc b o (x.foot b o h)).trans (x.footc b o h)
  footn b o h := by
    rcases y.footn b o h with h | h
    · exact x.footn b o h
    · exact .inr (x.new h)
  pin i b h := y.pin i b (x.pin i b h)
  pinb i b h1 h2 := x.box (y.pinb i b h1 h2)
  fr h := y.fr (x.fr h)
  wz h := y.wz (x.wz h)
  prog := y.prog.trans x.prog

/-- Over the elder base. -/
theorem SimM.rebase (h : SimM w1 S1 C G σ w) (x : Ext w0 S0 w1 S1) : SimM w0 S0 C G σ w where
  below := ⟨h.below.os.trans x.below.os, h.below.tape.trans x.below.tape, h.below.output.trans x.below.output, Nat.le_trans x.below.size h.below.size, fun k hk hm => (h.below.block k (Nat.lt_of_lt_of_le hk x.below.size) (x.block hk hm)).trans (x.below.block k hk hm)⟩
  foot0 b o hs := h.foot0 b o (x.foot b o hs)
  keep b o hs := (h.keep b o (x.foot b o hs)).trans (x.footc b o hs)
  pin i b hi := h.pin i b (x.pin i b hi)
  pinmu _ _ _ := trivial
  footlt := h.footlt
  footnew b o hs := by
    rcases h.footnew b o hs with h1 | h1
    · exact x.footn b o h1
    · exact .inr (x.new h1)
  boxM := h.boxM
  box id ro cs hx := by
    obtain ⟨h1, h2, h3, h4⟩ := h.box id ro cs hx
    exact ⟨x.box h1, h2, by rw [← x.prog]; exact h3, h4⟩
  inj := h.inj
  own := h.own
  ownnew g y b hx hb := x.new (h.ownnew g y b hx hb)
  ownne := h.ownne
  ownbox := h.ownbox
  fresh hf g := (h.fresh (x.fr hf) g).weak fun _ hb => x.new hb
  wz hz := h.wz (x.wz hz)

def reBase (S0 : Base) (pin0 : Nat → Option Nat) (G : Gh) (σ : St) (dfs : List Deferred) : Base :=
  { foot := G.S, mu := muOf G σ, pin := fun i => match pin0 i with | some b => some b | none => if (σ.hp i).isSome then some (G.β i) else none,
    fr := S0.fr, wz := S0.wz, prog := S0.prog, dfs := dfs }

theorem muOf_new (h : SimM w0 S0 C G σ w) {b : Nat} (hb : muOf G σ b) : NewB w0 S0 b := by
  rcases hb with ⟨id, y, hy, rfl⟩ | ⟨g, y, hy, hb⟩
  · exact h.newB (h.box id y.1 y.2 hy).1
  · exact h.ownnew g y b hy hb
theorem muOf_lt (h : SimM w0 S0 C G σ w) {b : Nat} (hb : muOf G σ b) : b < w.heap.size := by
  rcases hb with ⟨id, y, hy, rfl⟩ | ⟨g, y, hy, hb⟩
  · exact h.box_lt hy
  · exact ((h.own g y.1 y.2.1 y.2.2 hy).lt_heap b hb).2
theorem muOf_noBook (h : SimM w0 S0 C G σ w) {b : Nat} (hb : muOf G σ b) : ∀ o, w.heap[b]? = some o → isBook o = false := by
  rcases hb with ⟨id, y, hy, rfl⟩ | ⟨g, y, hy, hb⟩
  · exact (h.box id y.1 y.2 hy).2.2.1.noBook
  · exact (h.own g y.1 y.2.1 y.2.2 hy).noBook hb

theorem SimM.forward (h : SimM w0 S0 C G σ w) (hnf : ¬ S0.fr) {pin0 : Nat → Option Nat} (hp0 : ∀ i b, pin0 i = some b → C.M i ∧ G.β i = b) (dfs : List Deferred) : SimM w (reBase S0 pin0 G σ dfs) C G σ w where
  below := .refl _ _
  foot0 _ _ h := h
  keep _ _ _ := rfl
  pin i b hi := by
    simp only [reBase] at hi
    split at hi
    · rename_i b' hb'
      injection hi with hi; subst hi
      exact hp0 i _ hb'
    · split at hi
      · rename_i hs
        injection hi with hi
        obtain ⟨y, hy⟩ := Option.isSome_iff_exists.1 hs
        exact ⟨h.boxM i y hy, hi⟩
      · cases hi
  pinmu _ _ _ := trivial
  footlt := h.footlt
  footnew _ _ hs := .inl hs
  boxM := h.boxM
  box id ro cs hx := by
    obtain ⟨h1, h2, h3, h4⟩ := h.box id ro cs hx
    refine ⟨.inr ⟨.inl ⟨id, _, hx, rfl⟩, id, ?_⟩, h2, h3, h4⟩
    simp only [reBase]
    split
    · rename_i b hb
      rw [(hp0 id b hb).2]
    · rw [hx]; rfl
  inj := h.inj
  own := h.own
  ownnew g y b hx hb := .inr (.inr ⟨g, y, hx, hb⟩)
  ownne := h.ownne
  ownbox := h.ownbox
  fresh hf := absurd hf hnf
  wz := h.wz

theorem SimM.ext (h : SimM w0 S0 C G σ w) {pin0 : Nat → Option Nat} (hsub : ∀ i b, S0.pin i = some b → pin0 i = some b) (hb0 : ∀ i b, pin0 i = some b → BoxB w0 S0 b ∨ S0.pin i = some b) (dfs : List Deferred) : Ext w0 S0 w (reBase S0 pin0 G σ dfs) where
  below := h.below
  mu b hb := muOf_new h hb
  foot := h.foot0
  footc := h.keep
  footn := h.footnew
  pin i b hi := by simp only [reBase, hsub i b hi]
  pinb i b hi hb := by
    rcases hb with ⟨id, y, hy, rfl⟩ | ⟨g, y, hy, hgb⟩
    · exact (h.box id y.1 y.2 hy).1
    · simp only [reBase] at hi
      split at hi
      · rename_i b' hb'
        injection hi with hi; subst hi
        rcases hb0 i _ hb' with h0 | h0
        · exact h0
        · rcases h.ownnew g y _ hy hgb with h1 | h1
          · exact .inl h1
          · exact .inr ⟨h1, i, h0⟩
      · split at hi
        · rename_i hs
          injection hi with hi
          obtain ⟨z, hz⟩ := Option.isSome_iff_exists.1 hs
          rw [← hi]; exact (h.box i z.1 z.2 hz).1
        · cases hi
  fr := id
  wz := id
  prog := rfl
end

theorem Ext.dfs {w0 w1 : World} {S0 S1 : Base} (x : Ext w0 S0 w1 S1) (l : List Deferred) : Ext w0 { S0 with dfs := l } w1 S1 := ⟨x.below, x.mu, x.foot, x.footc, x.footn, x.pin, x.pinb, x.fr, x.wz, x.prog⟩
theorem SimM.dfs {w0 w : World} {S0 : Base} {C : Cx} {G : Gh} {σ : St} {l : List Deferred} (h : SimM w0 { S0 with dfs := l } C G σ w) : SimM w0 S0 C G σ w :=
  ⟨h.below, h.foot0, h.keep, h.pin, h.pinmu, h.footlt, h.footnew, h.boxM, h.box, h.inj, h.own, h.ownnew, h.ownne, h.ownbox, h.fresh, h.wz⟩
/-- The marks on an activation's deferred calls. -/
def mark (r : Nat) : Deferred := { target := .collected r, args := #[] }
structure Dfs (w0 : World) (S0 : Base) : Prop where
  ex : ∃ ms : List Nat, S0.dfs = ms.map mark ∧ ms.Nodup ∧ ∀ r ∈ ms, w0.heap[r]? = some (.deferred (some [])) ∧ ¬ S0.mu r

end Go.Eng
/- A loop over a function: the iterator's contract; the law. -/
namespace Go.Eng
open Go Go.RowKit

/-- Nothing turns but new blocks, and book-keeping from block B on. -/
structure TurnsB (B : Nat) (w w' : World) : Prop where
  os : w'.os = w.os
  tape : w'.tape = w.tape
  output : w'.output = w.output
  size : w.heap.size ≤ w'.heap.size
  blk : ∀ k, k < w.heap.size → w'.heap[k]? = w.heap[k]? ∨ (B ≤ k ∧ ∃ o o', w.heap[k]? = some o ∧ isBook o = true ∧ w'.heap[k]? = some o' ∧ isBook o' = true)
theorem TurnsB.to {B : Nat} {w w' w0 : World} {S0 : Base} (h : TurnsB B w w') (hB : w0.heap.size ≤ B) : Turns w0 S0 w w' :=
  ⟨h.os, h.tape, h.output, h.size, fun k hk => (h.blk k hk).imp id fun ⟨h1, h2⟩ => ⟨.inl (Nat.le_trans hB h1), h2⟩⟩
theorem TurnsB.of {B : Nat} {w w' : World} (h : Below w.heap.size w w') : TurnsB B w w' := ⟨h.os, h.tape, h.output, h.size, fun k hk => .inl (h.block k hk)⟩
theorem TurnsB.put {B : Nat} {w : World} {l : Nat} {o o' : Obj} (hN : B ≤ l) (h : w.heap[l]? = some o) (ho : isBook o = true) (ho' : isBook o' = true) : TurnsB B w (w.putObj l o') := by
  have hl : l < w.heap.size := (Array.getElem?_eq_some_iff.1 h).1
  refine ⟨rfl, rfl, rfl, by simp, fun k hk => ?_⟩
  by_cases hkl : k = l
  · subst hkl
    exact .inr ⟨hN, o, o', h, ho, World.putObj_heap_same hl, ho'⟩
  · exact .inl (World.putObj_heap_other hkl)
theorem TurnsB.cells {B : Nat} {w w' : World} (h : TurnsB B w w') {b : Nat} (hb : b < w.heap.size) (o : Nat) : w'.cell? ⟨b, o, none⟩ = w.cell? ⟨b, o, none⟩ := by
  rcases h.blk b hb with h1 | ⟨_, x, y, h1, h2, h3, h4⟩
  · exact World.cell?_of_block h1
  · rw [cell_book h1 h2, cell_book h3 h4]

/-- An iterator's contract: it hands Φ of what it has captured on, one by one, as long as more is wanted; X: what a round may write; J: what holds ahead of round i. -/
structure IterFn (P : Program) (k : Nat) (fs : List Ty) (et : Ty) (Pre : List D → Prop) (Φ : List D → D) : Prop where
  enter : ∀ (args : Array Value) (w : World), (callFunc k args).run P w = .ok (.enter k args) w
  calls : ∀ (w : World) (S : Foot) (vs : List Value) (ds : List D), (∀ b o, S b o → b < w.heap.size) → vs.length = ds.length → (∀ (i : Nat) v d, vs[i]? = some v → ds[i]? = some d → Rep w S v d) → HasL (.ofL fs) ds → Pre ds →
    ∀ (l : Nat) (J : Nat → (Nat → Prop) → World → Prop) (Jx : World → Prop) (X0 : Nat → Prop),
      (∀ i X W W', J i X W → Below W.heap.size W W' → J i X W') → (∀ W W', Jx W → Below W.heap.size W W' → Jx W') → (∀ i X W, J i X W → ∀ b, X b → b < W.heap.size) →
      (∀ i x v X W, J i X W → (Φ ds).toL[i]? = some x → (∀ (W' : World) (S' : Foot), Rep W' S' v x) → Has et x →
        YieldAt Fence.wide 0 P l #[v] W fun e W' =>
          (e = .returned (.bool true) ∧ (∃ X', J (i + 1) X' W' ∧ ∀ b, X' b → X b ∨ W.heap.size ≤ b) ∧ BelowX X W W' ∧ ∀ b o, S b o → W'.cell? ⟨b, o, none⟩ = W.cell? ⟨b, o, none⟩) ∨
          (e = .returned (.bool false) ∧ Jx W')) →
      J 0 X0 w →
      Calls P k (#[.func (.yield l) #[] #[]] ++ vs.toArray) w fun e W' => (∃ v, e = .returned v) ∧ ((∃ X, J (Φ ds).toL.length X W') ∨ Jx W')

/-- How a round's body may be left: from W2 (the round's start; W: where it was asked for). -/
def rPost (I : Nat → (Nat → Prop) → World → Prop) (Ix : Code → World → Prop) (S : Foot) (X : Nat → Prop) (i : Nat) (W W2 : World) (e : Exit) (W3 : World) : Prop :=
  (W3.os = W2.os ∧ W3.tape = W2.tape ∧ W3.output = W2.output ∧ W2.heap.size ≤ W3.heap.size) ∧
  (∀ (k : Nat) (o : Obj), W2.heap[k]? = some o → isBook o = true → W3.heap[k]? = some o) ∧
  match e with
  | .normal => (∃ X', I (i + 1) X' W3 ∧ ∀ b, X' b → X b ∨ W.heap.size ≤ b) ∧ (∀ k, k < W.heap.size → ¬ X k → W3.heap[k]? = W2.heap[k]?) ∧ ∀ b o, S b o → W3.cell? ⟨b, o, none⟩ = W2.cell? ⟨b, o, none⟩
  | .ret => Ix .ret W3
  | .exit id => Ix (.exit id) W3
  | _ => False

theorem range_law {P : Program} {g : Operand} {ps : Array Tmp} {q : Tmp} (hps : ps = #[q]) {assign body : Code} {Q : Exit → Act → World → Prop} {a : Act} {w : World} {kf : Nat} {lb : List Value} (hg : a.eval g = .func (.func kf) #[] lb.toArray)
    {fs : List Ty} {et : Ty} {Pre : List D → Prop} {Φ : List D → D} (hit : IterFn P kf fs et Pre Φ) {S : Foot} {ds : List D} (hS : ∀ b o, S b o → b < w.heap.size) (hlen : lb.length = ds.length)
    (hrep : ∀ (i : Nat) v d, lb[i]? = some v → ds[i]? = some d → Rep w S v d) (hty : HasL (.ofL fs) ds) (hpre : Pre ds)
    (I : Nat → (Nat → Prop) → World → Prop) (Ix : Code → World → Prop) (X0 : Nat → Prop)
    (hI : ∀ i X W W', I i X W → TurnsB w.heap.size W W' → I i X W') (hIx : ∀ c W W', Ix c W → TurnsB w.heap.size W W' → Ix c W')
    (hXlt : ∀ i X W, I i X W → ∀ b, X b → b < W.heap.size ∧ ∀ o, W.heap[b]? = some o → isBook o = false) (h0 : I 0 X0 w)
    (hround : ∀ (l i : Nat) (x : D) (v : Value) (X : Nat → Prop) (W : World), I i X W → (Φ ds).toL[i]? = some x → (∀ (W' : World) (S' : Foot), Rep W' S' v x) → Has et x →
      WP (some l) P assign (Exit.then (fun a1 W1 => (BelowX X W W1 ∧ ∀ b o, S b o → W1.cell? ⟨b, o, none⟩ = W.cell? ⟨b, o, none⟩) ∧
        ∀ W2, TurnsB w.heap.size W1 W2 → WP (some l) P body (fun e _ W3 => rPost I Ix S X i W W2 e W3) a1 W2) (fun _ _ _ => False)) { tmps := a.tmps.setIfInBounds q v, defers := [] } W)
    (hSw : ∀ i X W, I i X W → ∀ b o, S b o → b < W.heap.size)
    (hdone : ∀ (r : Nat) (X : Nat → Prop) (W : World), w.heap.size ≤ r → I (Φ ds).toL.length X W → W.heap[r]? = some (.deferred (some [])) → Q .normal { a with defers := mark r :: a.defers } W)
    (hret : ∀ (r : Nat) (W : World), w.heap.size ≤ r → Ix .ret W → W.heap[r]? = some (.deferred (some [])) → Q .ret { a with defers := mark r :: a.defers } W)
    (hexit : ∀ (r : Nat) (id : Nat) (W : World), w.heap.size ≤ r → Ix (.exit id) W → W.heap[r]? = some (.deferred (some [])) → Q (.exit id) { a with defers := mark r :: a.defers } W) :
    (Code.rangeFunc g ps assign body).wp P Q a w := by
  refine (wpIn_wide (n := 1)).1 (wpIn_rangeFunc ?_)
  intro fn hfn
  show ∃ (l : Nat) (mk : List Deferred) (w₁ : World) (d : Deferred) (w₁' : World) (f : FuncId) (args : Array Value) (w₂ : World),
      (Instr.enterLoop fn a.tmps ps assign body none).run P w = .ok (l, mk) w₁ ∧ _
  obtain ⟨rec, hrec⟩ : ∃ rec : LoopState → Option Code → Loop, rec = fun st pe => { state := st, pending := pe, fn, tmps := a.tmps, params := ps, assign, body, defers := w.heap.size } := ⟨_, rfl⟩
  obtain ⟨W1, hW1⟩ : ∃ W1, (w.alloc (.deferred (some []))).alloc (.loop (rec .ready none)) = W1 := ⟨_, rfl⟩
  have hL1 : W1.heap[w.heap.size + 1]? = some (.loop (rec .ready none)) := by
    rw [← hW1]; have := World.alloc_heap_new (w.alloc (.deferred (some []))) (.loop (rec .ready none)); rwa [World.size_alloc] at this
  have hK1 : W1.heap[w.heap.size]? = some (.deferred (some [])) := by
    rw [← hW1]; exact (Below.heap_alloc _ _ _ (by simp)).trans (World.alloc_heap_new w _)
  have hb1 : Below w.heap.size w W1 := by
    rw [← hW1]; exact ((Below.refl _ w).alloc (Nat.le_refl _) _).alloc (by simp) _
  have hI1 : I 0 X0 W1 := hI _ _ _ _ h0 (.of hb1)
  refine ⟨w.heap.size + 1, [mark w.heap.size], W1, { target := .fn (.func kf) lb.toArray, args := #[.func (.yield (w.heap.size + 1)) #[] #[]] }, W1, kf,
    #[.func (.yield (w.heap.size + 1)) #[] #[]] ++ lb.toArray, W1, ?_, ?_, ?_, ?_, fun h => by simp [Fence.wide] at h, ?_⟩
  · rw [← hW1, hrec]; exact run_enterLoop_outer _ _ _ _ _
  · simp only [resolve, hg]
    simp [go_sem]
  · intro _ _; trivial
  · simp [invoke, go_sem, hit.enter]
  · refine callsIn_wide.2 ?_
    have hcall := hit.calls W1 S lb ds (fun b o hb => Nat.lt_of_lt_of_le (hS b o hb) hb1.size) hlen
      (fun i v d h1 h2 => (hrep i v d h1 h2).keep (fun _ _ h => h) (fun b o hs => World.cell?_of_block (hb1.block b (hS b o hs)))) hty hpre (w.heap.size + 1)
      (fun i X W => ∃ X' : Nat → Prop, (∀ b, X b ↔ X' b ∨ b = w.heap.size + 1) ∧ I i X' W ∧ W.heap[w.heap.size + 1]? = some (.loop (rec .ready none)) ∧ W.heap[w.heap.size]? = some (.deferred (some [])))
      (fun W => ∃ c, (c = .ret ∨ ∃ id, c = .exit id) ∧ Ix c W ∧ W.heap[w.heap.size + 1]? = some (.loop (rec .done (some c))) ∧ W.heap[w.heap.size]? = some (.deferred (some [])))
      (fun b => X0 b ∨ b = w.heap.size + 1)
      (fun i X W W' ⟨X', h1, h2, h3, h4⟩ hb => ⟨X', h1, hI _ _ _ _ h2 (.of hb), (hb.block _ (Array.getElem?_eq_some_iff.1 h3).1).trans h3, (hb.block _ (Array.getElem?_eq_some_iff.1 h4).1).trans h4⟩)
      (fun W W' ⟨c, h1, h2, h3, h4⟩ hb => ⟨c, h1, hIx _ _ _ h2 (.of hb), (hb.block _ (Array.getElem?_eq_some_iff.1 h3).1).trans h3, (hb.block _ (Array.getElem?_eq_some_iff.1 h4).1).trans h4⟩)
      (fun i X W ⟨X', h1, h2, h3, h4⟩ b hb => by
        rcases (h1 b).1 hb with hb | rfl
        · exact (hXlt _ _ _ h2 b hb).1
        · exact (Array.getElem?_eq_some_iff.1 h3).1)
      ?_ ⟨X0, fun b => Iff.rfl, hI1, hL1, hK1⟩
    · refine hcall.mono ?_
      rintro e W2 ⟨⟨v, rfl⟩, (⟨X, X', _, hi, hl, hk⟩ | ⟨c, hc, hi, hl, hk⟩)⟩
      · have ht : TurnsB w.heap.size W2 (W2.putObj (w.heap.size + 1) (.loop { rec .ready none with state := .exhausted })) := .put (by omega) hl rfl rfl
        refine ⟨none, W2.putObj (w.heap.size + 1) (.loop { rec .ready none with state := .exhausted }), ?_, ?_⟩
        · have := run_endLoop (P := P) hl (by rw [hrec]; simp)
          rw [hrec] at this ⊢; exact this
        · exact hdone _ X' _ (Nat.le_refl _) (hI _ _ _ _ hi ht) ((World.putObj_heap_other (by omega)).trans hk)
      · have ht : TurnsB w.heap.size W2 (W2.putObj (w.heap.size + 1) (.loop { rec .done (some c) with state := .exhausted })) := .put (by omega) hl rfl rfl
        refine ⟨some c, W2.putObj (w.heap.size + 1) (.loop { rec .done (some c) with state := .exhausted }), ?_, ?_⟩
        · have := run_endLoop (P := P) hl (by rw [hrec]; simp)
          rw [hrec] at this ⊢; exact this
        · rcases hc with rfl | ⟨id, rfl⟩
          · exact wpIn_ret (hret _ _ (Nat.le_refl _) (hIx _ _ _ hi ht) ((World.putObj_heap_other (by omega)).trans hk))
          · exact wpIn_exit (hexit _ id _ (Nat.le_refl _) (hIx _ _ _ hi ht) ((World.putObj_heap_other (by omega)).trans hk))
    · rintro i x v X W ⟨X', hX, hi, hl, hk⟩ hx hv hex
      have hlt : w.heap.size + 1 < W.heap.size := (Array.getElem?_eq_some_iff.1 hl).1
      have hy := run_yield (P := P) (args := #[v]) hl (by rw [hrec]; simp [hps])
      rw [hrec] at hy
      have htm : (ps.zip #[v]).foldl (fun (tmps : Array Value) (x : Tmp × Value) => tmps.setIfInBounds x.1 x.2) a.tmps = a.tmps.setIfInBounds q v := by rw [hps]; simp
      refine ⟨fn, _, assign, body, hy, ?_⟩
      have hr := hround (w.heap.size + 1) i x v X' W hi hx hv hex
      refine roundIn_of_wpIn trivial ?_
      show assign.wpIn (Fence.wide.inRound (w.heap.size + 1)) 0 P _ { tmps := (ps.zip #[v]).foldl (fun (tmps : Array Value) (x : Tmp × Value) => tmps.setIfInBounds x.1 x.2) a.tmps, defers := [] } W
      rw [htm]
      refine wpIn_mono hr ?_
      intro e a1 Wa hq
      cases e with
      | normal =>
        obtain ⟨⟨hbx, hsc⟩, hgo⟩ := hq
        have hlX : ¬ X' (w.heap.size + 1) := fun h => by have := (hXlt _ _ _ hi _ h).2 _ hl; cases this
        have hkX : ¬ X' w.heap.size := fun h => by have := (hXlt _ _ _ hi _ h).2 _ hk; cases this
        have hla := (hbx.block _ hlt hlX).trans hl
        have hka := (hbx.block _ (Array.getElem?_eq_some_iff.1 hk).1 hkX).trans hk
        have hlta : w.heap.size + 1 < Wa.heap.size := (Array.getElem?_eq_some_iff.1 hla).1
        refine ⟨_, run_beginRound hla (by rw [hrec]), ?_⟩
        have ht : TurnsB w.heap.size Wa (Wa.putObj (w.heap.size + 1) (.loop { rec .ready none with state := .busy })) := .put (by omega) hla rfl rfl
        have hl2 : (Wa.putObj (w.heap.size + 1) (.loop { rec .ready none with state := .busy })).heap[w.heap.size + 1]? = some (.loop { rec .ready none with state := .busy }) := World.putObj_heap_same hlta
        have hk2 : (Wa.putObj (w.heap.size + 1) (.loop { rec .ready none with state := .busy })).heap[w.heap.size]? = some (.deferred (some [])) := (World.putObj_heap_other (by omega)).trans hka
        refine wpIn_mono (hgo _ ht) ?_
        intro e2 a2 W3 ⟨⟨hos, htp, hou, hsz3⟩, hbook, hpost⟩
        have hl3 := hbook _ _ hl2 rfl
        have hk3 := hbook _ _ hk2 rfl
        have fin : ∀ (jump : Option Code),
            (Instr.endRound (w.heap.size + 1) jump).run P W3 = .ok (.bool jump.isNone) (W3.putObj (w.heap.size + 1) (.loop (rec (if jump.isNone then .ready else .done) jump))) ∧
            (W3.putObj (w.heap.size + 1) (.loop (rec (if jump.isNone then .ready else .done) jump))).heap[w.heap.size + 1]? = some (.loop (rec (if jump.isNone then .ready else .done) jump)) ∧
            (W3.putObj (w.heap.size + 1) (.loop (rec (if jump.isNone then .ready else .done) jump))).heap[w.heap.size]? = some (.deferred (some [])) ∧
            TurnsB w.heap.size W3 (W3.putObj (w.heap.size + 1) (.loop (rec (if jump.isNone then .ready else .done) jump))) := fun jump => by
          have := run_endRound (P := P) jump hl3
          rw [hrec] at this ⊢
          exact ⟨this, World.putObj_heap_same (Array.getElem?_eq_some_iff.1 hl3).1, (World.putObj_heap_other (by omega)).trans hk3, .put (by omega) hl3 rfl rfl⟩
        cases e2 with
        | normal =>
          obtain ⟨⟨X2, hX2, hX2s⟩, hkeep, hsc3⟩ := hpost
          obtain ⟨hr, hl4, hk4, ht4⟩ := fin none
          refine ⟨_, _, hr, .inl ⟨rfl, ⟨fun b => X2 b ∨ b = w.heap.size + 1, ⟨X2, fun _ => Iff.rfl, hI _ _ _ _ hX2 ht4, hl4, hk4⟩, ?_⟩, ?_, ?_⟩⟩
          · rintro b (hb | rfl)
            · rcases hX2s b hb with h | h
              · exact .inl ((hX b).2 (.inl h))
              · exact .inr h
            · exact .inl ((hX _).2 (.inr rfl))
          · refine ⟨?_, ?_, ?_, ?_, ?_⟩
            · exact (ht4.os.trans hos).trans (ht.os.trans hbx.os)
            · exact (ht4.tape.trans htp).trans (ht.tape.trans hbx.tape)
            · exact (ht4.output.trans hou).trans (ht.output.trans hbx.output)
            · exact Nat.le_trans hbx.size (Nat.le_trans ht.size (Nat.le_trans hsz3 ht4.size))
            · intro k hk' hnX
              have hnX' : ¬ X' k := fun h => hnX ((hX k).2 (.inl h))
              have hkl : k ≠ w.heap.size + 1 := fun h => hnX ((hX k).2 (.inr h))
              exact (World.putObj_heap_other hkl).trans ((hkeep k hk' hnX').trans ((World.putObj_heap_other hkl).trans (hbx.block k hk' hnX')))
          · intro b o hs
            have hbW := hSw _ _ _ hi b o hs
            have hbWa := Nat.lt_of_lt_of_le hbW hbx.size
            have e1 := ht.cells hbWa o
            have e2 := ht4.cells (Nat.lt_of_lt_of_le hbWa (Nat.le_trans ht.size hsz3)) o
            exact e2.trans ((hsc3 b o hs).trans (e1.trans (hsc b o hs)))
        | ret =>
          obtain ⟨hr, hl4, hk4, ht4⟩ := fin (some .ret)
          exact ⟨_, _, hr, .inr ⟨rfl, .ret, .inl rfl, hIx _ _ _ hpost ht4, hl4, hk4⟩⟩
        | exit id =>
          obtain ⟨hr, hl4, hk4, ht4⟩ := fin (some (.exit id))
          exact ⟨_, _, hr, .inr ⟨rfl, .exit id, .inr ⟨id, rfl⟩, hIx _ _ _ hpost ht4, hl4, hk4⟩⟩
        | goto t => exact hpost.elim
        | panic ch => exact hpost.elim
        | outgrown => exact hpost.elim
      | exit id => exact hq.elim
      | goto t => exact hq.elim
      | ret => exact hq.elim
      | panic ch => exact hq.elim
      | outgrown => exact hq.elim
end Go.Eng
