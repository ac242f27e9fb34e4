/-
  A call that writes over a slice of integers of the caller's own: what else leaned on memory is forgotten.
-/
import Derived.Test.YtjpkeliliahjoaaEngQ
namespace Go.Eng
open Go Go.RowKit

theorem E.lt_mono' {n m : Nat} (h : n ≤ m) : ∀ {e : E}, e.lt n = true → e.lt m = true := by
  intro e
  induction e with
  | var i => intro he; simp only [E.lt, decide_eq_true_eq] at he ⊢; omega
  | kint | kbool | kstr | nilp | nil => intro _; rfl
  | cons a b iha ihb => intro he; simp only [E.lt, Bool.and_eq_true] at he ⊢; exact ⟨iha he.1, ihb he.2⟩
  | un o e ih => intro he; exact ih he
  | bin o a b iha ihb => intro he; simp only [E.lt, Bool.and_eq_true] at he ⊢; exact ⟨iha he.1, ihb he.2⟩
  | ite c a b ihc iha ihb => intro he; simp only [E.lt, Bool.and_eq_true] at he ⊢; exact ⟨⟨ihc he.1.1, iha he.1.2⟩, ihb he.2⟩
theorem condB_agree' {ρ ρ' : Nat → D} {n : Nat} (h : ∀ i, i < n → ρ' i = ρ i) {c : Cond} (hc : (c.all fun x => x.1.lt n) = true) : condB ρ' c = condB ρ c := by
  unfold condB
  rw [List.all_eq_true] at hc
  rw [Bool.eq_iff_iff, List.all_eq_true, List.all_eq_true]
  constructor
  · intro H x hx; rw [← den_agree h (hc x hx)]; exact H x hx
  · intro H x hx; rw [den_agree h (hc x hx)]; exact H x hx

structure PlOp where
  k : Nat
  g : Tag
  e : E
  T : TypeId
  dst : Option Nat
  unit : Bool

def dstOk (n : Nat) : Option Nat → Bool
  | some d => decide (d < n)
  | none => true
def opPl (P : Program) (cs : Tbl) (n : Nat) (σ : St) (o : Oper) : Option PlOp :=
  match o.guard, o.op with
  | none, .call { callee := .value f, args, argTypes } =>
    match getV P σ [] f 0, args.toList with
    | some (.one (.dat _ (.fn k .nil))), [x] =>
      match lk cs.l k, getV P σ [] x (argTypes.getD 0 0) with
      | some sig, some (.one (.own g _ _)) =>
        match sig.ob, σ.live g with
        | some ob, some (e, T, t) =>
          if ob.isPl = true ∧ t = .int .i64 ∧ dstOk n o.dst = true then some ⟨k, g, e, T, o.dst, sig.res.isEmpty⟩ else none
        | _, _ => none
      | _, _ => none
    | _, _ => none
  | _, _ => none
def isPlCall (P : Program) (cs : Tbl) (σ : St) (o : Oper) : Bool :=
  match o.op with
  | .call { callee := .value f, .. } => match getV P σ [] f 0 with
    | some (.one (.dat _ (.fn k .nil))) => match lk cs.l k with
      | some sig => match sig.ob with
        | some ob => ob.isPl
        | none => false
      | none => false
    | _ => false
  | _ => false
/-- Which of a region's operations is such a call. -/
def plIdx (P : Program) (cs : Tbl) (σ : St) (ops : Array Oper) (draw : Bool) : Option Nat :=
  if draw || cs.fr != 0 then none else (List.range ops.size).find? fun i => match ops[i]? with
    | some o => isPlCall P cs σ o
    | none => false
theorem plIdx_ok {P : Program} {cs : Tbl} {σ : St} {ops : Array Oper} {draw : Bool} {c : Nat} (h : plIdx P cs σ ops draw = some c) : draw = false ∧ cs.fr = 0 ∧ c < ops.size := by
  unfold plIdx at h
  split at h
  · cases h
  · rename_i hd
    simp only [Bool.or_eq_true, not_or, Bool.not_eq_true, bne_iff_ne, ne_eq, Decidable.not_not] at hd
    exact ⟨hd.1, hd.2, by simpa using List.mem_of_find?_eq_some h⟩

def keepSC : SC → Bool
  | .dat _ (.int _) => true
  | .dat _ .bool => true
  | _ => false
def havTm (x : PlOp) (p : Nat) (tm : Nat → Option (Cond × SV)) (t : Nat) : Option (Cond × SV) :=
  if x.dst = some t then (if x.unit then none else some ([], .one (.own (p, 0) (.var p) (.int .i64))))
  else match tm t with
    | some (c, .one s) => if keepSC s then some (c, .one s) else match s with
        | .own g' _ _ => if g' = x.g ∧ x.unit = true ∧ c = [] then some ([], .one (.own (p, 0) (.var p) (.int .i64))) else none
        | _ => none
    | _ => none
def PlOp.after (x : PlOp) (σ : St) (p : Nat) : St :=
  ⟨havTm x p σ.tm, fun _ => none, fun y => if y = (p, 0) then some (.var p, x.T, .int .i64) else none⟩

theorem ints_of_has {l : List D} (h : ∀ x ∈ l, Has (.int .i64) x) : ∃ zs : List Int, l = zs.map (D.int .i64) := by
  induction l with
  | nil => exact ⟨[], rfl⟩
  | cons d l ih =>
    obtain ⟨zs, rfl⟩ := ih fun x hx => h x (List.mem_cons_of_mem _ hx)
    obtain ⟨n, rfl, _⟩ := has_int.1 (h d (List.mem_cons_self ..))
    exact ⟨n :: zs, rfl⟩

theorem cell_heap {w w' : World} {b o : Nat} (h : w'.heap[b]? = w.heap[b]?) : w'.cell? ⟨b, o, none⟩ = w.cell? ⟨b, o, none⟩ := by
  simp only [World.cell?, h]

theorem own_lt {w : World} {base : Nat} {T : TypeId} {v : Value} {m : Nat} {xs : List Value} (h : w.ownsRow base T 1 v m xs) {b : Nat} (hb : v.ownBlock = some b) : b < w.heap.size := by
  rcases h.2 with ⟨rfl, _⟩ | ⟨g, cap, cur, rfl, _, hg, _⟩
  · cases hb
  · simp only [Value.ownBlock, Option.some.injEq] at hb
    subst hb
    exact (Array.getElem?_eq_some_iff.1 hg).1

section
variable {P : Program} {w w0 : World} {S0 : Base} {ρ : Nat → D} {p : Nat} {G : Gh} {σ : St} {a : Act} {n : Nat}

/-- An owned slice of integers: its cells. -/
theorem OwnOk.ints {C : Cx} {g : Tag} {e : E} {T : TypeId} (h : OwnOk C w 0 G g e T (.int .i64)) : ∃ zs : List Int, den C.ρ e = .list (zs.map (D.int .i64)) ∧ w.ownsRow 0 T 1 (G.τ g) zs.length (zs.map (Value.int .i64)) := by
  obtain ⟨xs, l, hl, hown, _, hr⟩ := h.own
  have hh := h.has
  rw [hl] at hh
  obtain ⟨_, h1, _, h2⟩ := has_list.1 hh
  injection h1 with h1; subst h1
  obtain ⟨zs, rfl⟩ := ints_of_has h2
  refine ⟨zs, hl, ?_⟩
  have e1 : xs = zs.map (Value.int .i64) := by
    apply List.ext_getElem?
    intro i
    have hlen : xs.length = zs.length := by
      have h : xs.length = (zs.map (D.int .i64)).length * 1 := hown.1
      rw [List.length_map, Nat.mul_one] at h; exact h
    by_cases hi : i < zs.length
    · have hx : xs[i]? = some xs[i] := List.getElem?_eq_getElem (by omega)
      have hz : (zs.map (D.int .i64))[i]? = some (.int .i64 zs[i]) := by simp [hi]
      have := hr i _ 0 xs[i] (.int .i64 zs[i]) hz rfl (by show xs[i * 1 + 0]? = _; rw [Nat.mul_one, Nat.add_zero]; exact hx)
      rw [hx, this.inv_int]; simp [hi]
    · rw [List.getElem?_eq_none (by omega), List.getElem?_eq_none (by simp; omega)]
  have hown' : w.ownsRow 0 T 1 (G.τ g) (zs.map (D.int .i64)).length xs := hown
  rw [List.length_map] at hown'
  rw [← e1]; exact hown'

theorem Sim.placed {x : PlOp} {u v' : Value} {ys : List Int} {w' : World} (hs : Sim n w0 S0 ⟨ρ, p, fun i => i < p⟩ G σ a w) (hfl : ∀ b o, S0.foot b o → ¬ NewB w0 S0 b) (hg : ∃ e, σ.live x.g = some (e, x.T, .int .i64))
    (hdst : ∀ d, x.dst = some d → d < n) (hnf : ¬ S0.fr) (hnw : ¬ S0.wz) (hh : Has (.list (.int .i64)) (.list (ys.map (D.int .i64)))) (ho : PlOut w x.T (G.τ x.g) x.unit ys u v' w') :
    ∃ G', Sim n w0 S0 ⟨upd ρ p (.list (ys.map (D.int .i64))), p + 1, fun i => i < p + 1⟩ G' (x.after σ p) (a.put x.dst u) w' := by
  obtain ⟨e, hg⟩ := hg
  have hblk : ∀ b, v'.ownBlock = some b → NewB w0 S0 b := fun b hb => hs.m.ownnew x.g _ b hg (by rw [← ho.blk]; exact hb)
  have hblk0 : ∀ b, (G.τ x.g).ownBlock = some b → NewB w0 S0 b := fun b hb => hs.m.ownnew x.g _ b hg hb
  have hfoot : ∀ b o, S0.foot b o → w'.heap[b]? = w.heap[b]? := fun b o hb => ho.below.block b (hs.m.footlt b o (hs.m.foot0 b o hb)) (fun h => hfl b o hb (hblk0 b h))
  have hag : ∀ i, i < p → (upd ρ p (.list (ys.map (D.int .i64)))) i = ρ i := fun i hi => upd_ne _ _ (by omega)
  have hv : den (upd ρ p (.list (ys.map (D.int .i64)))) (.var p) = .list (ys.map (D.int .i64)) := upd_same _ _ _
  have hrep : ∀ (S : Foot), (∀ b, v'.ownBlock = some b → ∀ o, o < ys.length → S b o) → Rep w' S v' (.list (ys.map (D.int .i64))) := by
    intro S hS
    rcases ho.own.2 with ⟨rfl, h0⟩ | ⟨gb, cap, cur, rfl, _, hgb, hle, _, hsz, htk⟩
    · have : ys = [] := List.eq_nil_of_length_eq_zero h0
      subst this; exact .nil none 0
    · cases hys : ys with
      | nil => exact .nil _ _
      | cons y0 yr =>
        rw [← hys]
        have hlen : (ys.map (D.int .i64)).length = ys.length := by simp
        have := Rep.list (w := w') (S := S) gb 0 cap 1 (ys.map (Value.int .i64)) (ys.map (D.int .i64)) (by omega) (by rw [hys]; simp) (by simpa using hle) (by simp)
          (fun i hi => by rw [Nat.zero_add]; exact hS gb rfl i (by simpa using hi))
          (fun i v hi => by
            rw [cell_of_row w' gb (0 + i) cur x.T (0, 0) hgb, Nat.zero_add]
            have h1 : (cur.toList.take (ys.length * 1))[i]? = some v := by rw [htk]; exact hi
            rw [List.getElem?_take] at h1
            split at h1
            · simpa using h1
            · cases h1)
          (fun i d hd => by
            simp only [List.getElem?_map, Option.map_eq_some_iff] at hd
            obtain ⟨z, _, rfl⟩ := hd; rfl)
          (fun i d j v c hd hc hx => by
            simp only [List.getElem?_map, Option.map_eq_some_iff] at hd
            obtain ⟨z, hz, rfl⟩ := hd
            cases j with
            | succ j => simp [D.cells] at hc
            | zero =>
              simp only [D.cells, List.getElem?_cons_zero, Option.some.injEq] at hc; subst hc
              rw [Nat.mul_one, Nat.add_zero, List.getElem?_map, hz] at hx
              simp only [Option.map_some, Option.some.injEq] at hx; subst hx
              exact .int _ _)
        rwa [hlen] at this
  let S' : Foot := fun b o => S0.foot b o ∨ (v'.ownBlock = some b ∧ o < ys.length)
  have hS' : ∀ b, v'.ownBlock = some b → ∀ o, S' b o ↔ o < ys.length := fun b hb o =>
    ⟨fun h => h.elim (fun h => absurd (hblk b hb) (hfl b o h)) (fun h => h.2), fun h => .inr ⟨hb, h⟩⟩
  have hrepS := hrep S' (fun b hb o h => (hS' b hb o).2 h)
  let G' : Gh := ⟨S', G.β, fun y => if y = (p, 0) then v' else G.τ y⟩
  have hτ : G'.τ (p, 0) = v' := if_pos rfl
  have hM : (fun i => i < p + 1) p := Nat.lt_succ_self p
  have hvlt : (E.var p).lt (p + 1) = true := by simp [E.lt]
  have hown : OwnOk ⟨upd ρ p (.list (ys.map (D.int .i64))), p + 1, fun i => i < p + 1⟩ w' 0 G' (p, 0) (.var p) x.T (.int .i64) := by
    refine ⟨hM, hvlt, by rw [hv]; exact hh, ys.map (Value.int .i64), ys.map (D.int .i64), hv, ?_, ?_, ?_⟩
    · rw [hτ, List.length_map]; exact ho.own
    · intro b hb o
      rw [hτ] at hb
      rw [List.length_map]; exact (hS' b hb o).trans ⟨fun h => ⟨rfl, h⟩, And.right⟩
    · intro i d j v c hd hc hx
      simp only [List.getElem?_map, Option.map_eq_some_iff] at hd
      obtain ⟨z, hz, rfl⟩ := hd
      cases j with
      | succ j => simp [D.cells] at hc
      | zero =>
        simp only [D.cells, List.getElem?_cons_zero, Option.some.injEq] at hc; subst hc
        have e1 : (Ty.int .i64).cells.length = 1 := rfl
        rw [e1, Nat.mul_one, Nat.add_zero, List.getElem?_map, hz] at hx
        simp only [Option.map_some, Option.some.injEq] at hx; subst hx
        exact .int _ _
  have hlive : ∀ y z, (x.after σ p).live y = some z → y = (p, 0) ∧ z = (.var p, x.T, .int .i64) := by
    intro y z hy
    simp only [PlOp.after] at hy
    split at hy
    · rename_i h; injection hy with hy; exact ⟨h, hy.symm⟩
    · cases hy
  have hsc : RSC ⟨upd ρ p (.list (ys.map (D.int .i64))), p + 1, fun i => i < p + 1⟩ w' G' (.own (p, 0) (.var p) (.int .i64)) v' :=
    ⟨hM, hvlt, by rw [hv]; exact hrepS, by rw [hv]; exact hh, hτ.symm⟩
  refine ⟨G', ⟨⟨?_, fun b o h => .inl h, ?_, ?_, hs.m.pinmu, ?_, ?_, ?_, ?_, ?_, ?_, ?_, ?_, ?_, fun h => absurd h hnf, fun h => absurd h hnw⟩, ?_, by rw [Act.put_size]; exact hs.sz, by rw [Act.put_def]; exact hs.defers⟩⟩
  · refine ⟨ho.below.os.trans hs.m.below.os, ho.below.tape.trans hs.m.below.tape, ho.below.output.trans hs.m.below.output, Nat.le_trans hs.m.below.size ho.below.size, fun k hk hmu => ?_⟩
    rw [ho.below.block k (Nat.lt_of_lt_of_le hk hs.m.below.size) (fun h => (hblk0 k h).elim (fun h => absurd hk (Nat.not_lt.2 h)) hmu), hs.m.below.block k hk hmu]
  · intro b o h
    rw [cell_heap (hfoot b o h)]; exact hs.m.keep b o h
  · intro i b hi
    obtain ⟨h1, h2⟩ := hs.m.pin i b hi
    exact ⟨Nat.lt_succ_of_lt h1, h2⟩
  · rintro b o (h | ⟨h, _⟩)
    · exact Nat.lt_of_lt_of_le (hs.m.footlt b o (hs.m.foot0 b o h)) ho.below.size
    · exact own_lt ho.own h
  · rintro b o (h | ⟨h, _⟩)
    · exact .inl h
    · exact .inr (hblk b h)
  · intro id y hy; cases hy
  · intro id ro cs hy; cases hy
  · intro i j y z hy; cases hy
  · intro g' e' T' t' hy
    obtain ⟨rfl, h2⟩ := hlive _ _ hy
    simp only [Prod.mk.injEq] at h2
    obtain ⟨rfl, rfl, rfl⟩ := h2
    exact hown
  · intro g' z b hy hb
    obtain ⟨rfl, _⟩ := hlive _ _ hy
    rw [hτ] at hb; exact hblk b hb
  · intro g1 g2 y z b h1 h2 _ _
    rw [(hlive _ _ h1).1, (hlive _ _ h2).1]
  · intro g' id y z b _ hy; cases hy
  · intro t c s ht
    simp only [PlOp.after, havTm] at ht
    split at ht
    · rename_i hd
      split at ht
      · cases ht
      · rename_i hu
        simp only [Option.some.injEq, Prod.mk.injEq] at ht
        obtain ⟨rfl, rfl⟩ := ht
        have hres := ho.res
        rw [if_neg hu] at hres
        subst hres
        have hlt : t < a.tmps.size := by rw [hs.sz]; exact hdst t hd
        refine ⟨u, by rw [hd]; simp [Act.put, hlt], by simp, hvlt, ?_⟩
        have : condB (upd ρ p (.list (ys.map (D.int .i64)))) ([] : Cond) = true := rfl
        rw [if_pos this]; exact hsc
    · rename_i hd
      have hput : ∀ v, a.tmps[t]? = some v → (a.put x.dst u).tmps[t]? = some v := by
        intro v hv
        unfold Act.put
        cases hdd : x.dst with
        | none => exact hv
        | some d =>
          have hne : d ≠ t := fun h => hd (by rw [hdd, h])
          simp only
          rw [Array.getElem?_setIfInBounds_ne hne]; exact hv
      split at ht
      · rename_i c' s' hst
        obtain ⟨v, h1, h2, h0, h3⟩ := hs.t t c' _ hst
        have hlt2 : ∀ y ∈ c', y.1.lt (p + 1) = true := fun y hy => E.lt_mono' (Nat.le_succ p) (h2 y hy)
        have hcb : condB (upd ρ p (.list (ys.map (D.int .i64)))) c' = condB ρ c' := condB_agree' hag (List.all_eq_true.2 h2)
        split at ht
        · rename_i hkeep
          simp only [Option.some.injEq, Prod.mk.injEq] at ht
          obtain ⟨rfl, rfl⟩ := ht
          obtain ⟨e', k', hse⟩ : ∃ (e' : E) (ty : Ty), s' = .dat e' ty ∧ ((∃ k, ty = .int k) ∨ ty = .bool) := by
            cases s' with
            | dat e' ty =>
              cases ty with
              | int k => exact ⟨e', _, rfl, .inl ⟨k, rfl⟩⟩
              | bool => exact ⟨e', _, rfl, .inr rfl⟩
              | _ => cases hkeep
            | _ => cases hkeep
          obtain ⟨rfl, hty⟩ := hse
          have hel : e'.lt p = true := h0
          refine ⟨v, hput v h1, hlt2, E.lt_mono' (Nat.le_succ p) hel, ?_⟩
          rw [hcb]
          have h3' : if condB ρ c' = true then RSV ⟨ρ, p, fun i => i < p⟩ w G (.one (.dat e' k')) v else v = undef := h3
          split
          · rename_i hc
            rw [if_pos hc] at h3'
            obtain ⟨_, q2, q3⟩ := h3'
            have hde : den (upd ρ p (.list (ys.map (D.int .i64)))) e' = den ρ e' := den_agree hag hel
            refine ⟨E.lt_mono' (Nat.le_succ p) hel, ?_, by rw [hde]; exact q3⟩
            rw [hde]
            rcases hty with ⟨k, rfl⟩ | rfl
            · obtain ⟨m, hm, _⟩ := has_int.1 q3
              have q2' : Rep w G.S v (den ρ e') := q2
              have hm' : den ρ e' = .int k m := hm
              rw [hm'] at q2' ⊢
              rw [q2'.inv_int]; exact .int _ _
            · obtain ⟨m, hm⟩ := has_bool.1 q3
              have q2' : Rep w G.S v (den ρ e') := q2
              have hm' : den ρ e' = .bool m := hm
              rw [hm'] at q2' ⊢
              rw [q2'.inv_bool]; exact .bool _
          · rename_i hc
            rw [if_neg hc] at h3'; exact h3'
        · split at ht
          · rename_i g' _ _
            split at ht
            · rename_i hc
              obtain ⟨rfl, hu, rfl⟩ := hc
              simp only [Option.some.injEq, Prod.mk.injEq] at ht
              obtain ⟨rfl, rfl⟩ := ht
              have hres := ho.res
              rw [if_pos hu] at hres
              subst hres
              have : condB ρ ([] : Cond) = true := rfl
              have h3' := h3
              rw [if_pos this] at h3'
              obtain ⟨_, _, _, _, hvτ⟩ := h3'
              refine ⟨v, hput v h1, by simp, hvlt, ?_⟩
              have : condB (upd ρ p (.list (ys.map (D.int .i64)))) ([] : Cond) = true := rfl
              rw [if_pos this, hvτ]; exact hsc
            · cases ht
          · cases ht
      · cases ht

theorem opPl_ok {cs : Tbl} {Φ : Nat → List D → D} {Pre : Nat → List D → Prop} {ops : Array Oper} {o : Oper} {x : PlOp} (h : opPl P cs n σ o = some x) (hcon : ∀ k sig, lk cs.l k = some sig → PureFn P k sig (Pre k) (Φ k))
    (hs : Sim n w0 S0 ⟨ρ, p, fun i => i < p⟩ G σ a w) (hpre : Pre x.k [den ρ x.e]) (hpl : ∀ k sig ob, lk cs.l k = some sig → sig.ob = some ob → ob.isPl = true → ∀ b o, S0.foot b o → ¬ NewB w0 S0 b) (hnf : ¬ S0.fr) (hnw : ¬ S0.wz) :
    ∀ (next : Act → World → Prop) (Q : Exit → Act → World → Prop), (∀ a' w' G', Sim n w0 S0 ⟨upd ρ p (Φ x.k [den ρ x.e]), p + 1, fun i => i < p + 1⟩ G' (x.after σ p) a' w' → next a' w') → Region.wanted o (yielded ops a.tmps) = true ∧ o.wp P a w next Q := by
  intro next Q hQ
  unfold opPl at h
  split at h
  · rename_i f args argTypes hgd hop
    split at h
    · rename_i fe k y hf hargs
      split at h
      · rename_i sig g _ _ hk hy
        split at h
        · rename_i ob e T t hob hlv
          split at h
          · rename_i hc
            obtain ⟨hpl1, rfl, hdst⟩ := hc
            injection h with h; subst h
            have hfl := hpl k sig ob hk hob hpl1
            have hown := hs.m.own g e T (.int .i64) hlv
            obtain ⟨zs, hz, hrow⟩ := hown.ints
            have hcon' := hcon k sig hk
            have hfv : a.eval f = .func (.func k) #[] #[] := by
              obtain ⟨_, h2, h3⟩ := getV_ok hs.t (pc := []) rfl hf
              obtain ⟨l, hl, hnil⟩ := has_fn.1 h3
              rw [has_nil.1 hnil] at hl
              rw [hl] at h2
              obtain ⟨cv, hcv, hlen, _⟩ := h2.inv_fn
              rw [hcv, List.eq_nil_of_length_eq_zero hlen]
            have hyv : a.eval y = G.τ g := (getV_ok hs.t (pc := []) rfl hy).2.2.2.2
            have hargs' : args.map a.eval = #[G.τ g] := by
              apply Array.ext'
              rw [Array.toList_map, hargs]; simp [hyv]
            have hrun : (execOp a.eval o).run P w = .ok (.enter k #[G.τ g]) w := by
              unfold execOp; simp only [hop, resolve, hfv, Deferred.ofValue, hargs']
              have := hcon'.enter #[G.τ g] w
              simpa [invoke] using this
            refine ⟨by unfold Region.wanted; rw [hgd], ?_⟩
            unfold Oper.wp
            rw [hrun]
            have hz' : den ρ e = .list (zs.map (D.int .i64)) := hz
            have hhas : Has (.list (.int .i64)) (.list (zs.map (D.int .i64))) := by rw [← hz']; exact hown.has
            have hpre' : Pre k [.list (zs.map (D.int .i64))] := by rw [← hz']; exact hpre
            refine (hcon'.pcalls ob hob hpl1 w T (G.τ g) zs hrow hhas hpre').mono ?_
            rintro e' w' ⟨u, v', ys, rfl, hΦ, hh, hout⟩
            simp only
            obtain ⟨G', hs'⟩ := Sim.placed (x := ⟨k, g, e, T, o.dst, sig.res.isEmpty⟩) hs hfl ⟨e, hlv⟩ (fun d hd => by
              have hd' : o.dst = some d := hd
              rw [hd'] at hdst; simpa [dstOk] using hdst) hnf hnw hh hout
            refine hQ _ w' G' ?_
            rw [hz', hΦ]; exact hs'
          · cases h
        · cases h
      · cases h
    · cases h
  · cases h
end
end Go.Eng
