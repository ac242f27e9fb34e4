/-
  That each of these operations gives what is said.
-/
import Derived.Test.YtjpkeliliahjoaaEngF
namespace Go.Eng
open Go Go.RowKit

section
variable {P : Program} {C : Cx} {w : World} {G : Gh} {σ : St} {a : Act} {o : Oper} {pc : Cond} {s : SV} {is : List Item} {Φ : Nat → List D → D} {Pre : Nat → List D → Prop}

theorem run_bin_int {op : BinOp} {k : IntKind} {b : B} {isB nz : Bool} (h : binE op k = some (b, isB, nz)) {x y : Int} (hx : inK k x) (hnz : nz = true → y ≠ 0) (t : TypeId) (p q : Operand) :
    ∃ v, (do eqGuard op t p q (.int k x) (.int k y); binOp op t (.int k x) (.int k y) : Sem Value).run P w = .ok v w ∧ ∀ S, Rep w S v (b.den (.int k x) (.int k y)) ∧ Has (if isB then .bool else .int k) (b.den (.int k x) (.int k y)) := by
  have hI : ∀ n : Int, inK k n → Has (.int k) (.int k n) := fun n hn => has_int.2 ⟨n, rfl, hn⟩
  have hB : ∀ n : Bool, Has .bool (.bool n) := fun n => has_bool.2 ⟨n, rfl⟩
  cases op <;> simp only [binE, Option.some.injEq, Prod.mk.injEq] at h <;> (try (cases h; done)) <;> obtain ⟨rfl, rfl, rfl⟩ := h
  case rem =>
    have hy0 := hnz rfl
    refine ⟨.int k (x.tmod y), by simp [eqGuard, binOp, Op.intDiv, hy0], fun S => ⟨.int _ _, hI _ (inK_tmod hx)⟩⟩
  case quo =>
    have hy0 := hnz rfl
    refine ⟨.int k (k.wrap (x.tdiv y)), by simp [eqGuard, binOp, Op.intDiv, hy0], fun S => ⟨.int _ _, hI _ (inK_wrap _ _)⟩⟩
  all_goals first
    | exact ⟨.int k (k.wrap (x + y)), by simp [eqGuard, binOp, Op.intArith], fun S => ⟨.int _ _, hI _ (inK_wrap _ _)⟩⟩
    | exact ⟨.int k (k.wrap (x - y)), by simp [eqGuard, binOp, Op.intArith], fun S => ⟨.int _ _, hI _ (inK_wrap _ _)⟩⟩
    | exact ⟨.int k (k.wrap (x * y)), by simp [eqGuard, binOp, Op.intArith], fun S => ⟨.int _ _, hI _ (inK_wrap _ _)⟩⟩
    | exact ⟨.int k (bitXor k x y), by simp [eqGuard, binOp, Op.intBits, bitXor], fun S => ⟨.int _ _, hI _ (inK_wrap _ _)⟩⟩
    | exact ⟨.bool (decide (x < y)), by simp [eqGuard, binOp, Op.intCmp], fun S => ⟨.bool _, hB _⟩⟩
    | exact ⟨.bool (decide (x ≤ y)), by simp [eqGuard, binOp, Op.intCmp], fun S => ⟨.bool _, hB _⟩⟩
    | exact ⟨.bool (decide (x > y)), by simp [eqGuard, binOp, Op.intCmp], fun S => ⟨.bool _, hB _⟩⟩
    | exact ⟨.bool (decide (x ≥ y)), by simp [eqGuard, binOp, Op.intCmp], fun S => ⟨.bool _, hB _⟩⟩
    | exact ⟨.bool (x == y), by simp [eqGuard, binOp, Op.intCmp], fun S => ⟨.bool _, hB _⟩⟩
    | exact ⟨.bool (x != y), by simp [eqGuard, binOp, Op.intCmp], fun S => ⟨.bool _, hB _⟩⟩

theorem run_equalIn_nilptr {t el : TypeId} (hu : P.underlying t = some (.pointer el)) (p : Option Addr) (d : Nat) : (Op.equalIn (d + 1) t (.pointer p) (.pointer none)).run P w = .ok p.isNone w := by
  cases p <;> simp [Op.equalIn, run_underlying hu]
theorem run_eq_nilptr {t el : TypeId} (hu : P.underlying t = some (.pointer el)) (p : Option Addr) (x y : Operand) :
    (do eqGuard .eql t x y (.pointer p) (.pointer none); binOp .eql t (.pointer p) (.pointer none) : Sem Value).run P w = .ok (.bool p.isNone) w := by
  have h1 : binOp .eql t (.pointer p) (.pointer none) = (do pure (.bool (← Op.equalIn (9999 + 1) t (.pointer p) (.pointer none)))) := rfl
  have h2 : eqGuard .eql t x y (.pointer p) (.pointer none) = pure () := rfl
  rw [h1, h2, Sem.run_bind, Sem.run_pure, Result.andThen_ok, Sem.run_bind, run_equalIn_nilptr hu]; rfl
theorem run_ne_nilptr {t el : TypeId} (hu : P.underlying t = some (.pointer el)) (p : Option Addr) (x y : Operand) :
    (do eqGuard .neq t x y (.pointer p) (.pointer none); binOp .neq t (.pointer p) (.pointer none) : Sem Value).run P w = .ok (.bool (!p.isNone)) w := by
  have h1 : binOp .neq t (.pointer p) (.pointer none) = (do pure (.bool (!(← Op.equalIn (9999 + 1) t (.pointer p) (.pointer none))))) := rfl
  have h2 : eqGuard .neq t x y (.pointer p) (.pointer none) = pure () := rfl
  rw [h1, h2, Sem.run_bind, Sem.run_pure, Result.andThen_ok, Sem.run_bind, run_equalIn_nilptr hu]; rfl

/-- A value out of its cells. -/
def valOf (P : Program) (t : TypeId) (vs : List Value) : Value := if aggT P t then .agg vs.toArray else vs.getD 0 undef

theorem run_isAgg {t : TypeId} {d : TypeDesc} (hu : P.underlying t = some d) : (isAgg t).run P w = .ok (aggT P t) w := by
  unfold isAgg aggT
  rw [Sem.run_bind, run_underlying hu w]
  simp only [Result.andThen_ok, hu]
  cases d <;> rfl

theorem run_sizeT {t : TypeId} {n : Nat} (h : sizeT P t = some n) : (sizeOf t).run P w = .ok n w := by
  unfold sizeT at h
  cases hi : P.info? t with
  | none => simp [hi] at h
  | some i => simp [hi] at h; simp [sizeOf, typeInfo, hi, h]

theorem run_part {t : TypeId} {d : TypeDesc} (hu : P.underlying t = some d) {n off : Nat} (hs : sizeT P t = some n) (vs : List Value) (hn : off + n ≤ vs.length) (h0 : aggT P t = false → 0 < n) :
    (part t vs.toArray off).run P w = .ok (valOf P t ((vs.drop off).take n)) w := by
  unfold part valOf
  rw [Sem.run_bind, run_isAgg hu]
  simp only [Result.andThen_ok]
  cases ha : aggT P t with
  | true =>
    simp only [if_true, Sem.run_bind, run_sizeT hs, Result.andThen_ok, Sem.run_pure]
    congr 2
    apply Array.ext'
    simp [List.extract_eq_take_drop]
  | false =>
    have h1 := h0 ha
    have hlt : off < vs.length := by omega
    simp only [Bool.false_eq_true, if_false]
    have e1 : (vs.toArray)[off]? = some vs[off] := by simp [hlt]
    have e2 : ((vs.drop off).take n).getD 0 undef = vs[off] := by
      simp [List.getD, List.getElem?_drop, show 0 < n from h1, hlt]
    rw [e1, e2]
    rfl

def RepC (ρ : Nat → D) (w : World) (S : Foot) (vs : List Value) (xs : List (E × Ty)) : Prop :=
  vs.length = xs.length ∧ ∀ (i : Nat) v x, vs[i]? = some v → xs[i]? = some x → Rep w S v (den ρ x.1) ∧ Has x.2 (den ρ x.1)

theorem RepC.cut {ρ : Nat → D} {S : Foot} {vs : List Value} {xs : List (E × Ty)} (h : RepC ρ w S vs xs) (off n : Nat) : RepC ρ w S ((vs.drop off).take n) ((xs.drop off).take n) := by
  refine ⟨by simp [h.1], fun i v x hv hx => ?_⟩
  simp only [List.getElem?_take, List.getElem?_drop] at hv hx
  split at hv
  · rename_i hi; rw [if_pos hi] at hx; exact h.2 _ v x hv hx
  · cases hv

theorem eqE_ok (ρ : Nat → D) (S : Foot) : ∀ (n : Nat) (t : TypeId) (xs ys : List (E × Ty)) (e : E), eqE P n t xs ys = some e → ∀ (vx vy : List Value) (d : Nat), RepC ρ w S vx xs → RepC ρ w S vy ys →
    (Op.equalIn (d + n) t (valOf P t vx) (valOf P t vy)).run P w = .ok (den ρ e).toB w ∧ (∃ b, den ρ e = .bool b) ∧ (aggT P t = false → 0 < vx.length)
  | 0, _, _, _, _, h => by cases h
  | n + 1, t, xs, ys, e, h => by
    intro vx vy d hx hy
    unfold eqE at h
    split at h
    · rename_i k0 hu
      have ha : aggT P t = false := by unfold aggT; rw [hu]
      split at h
      · rename_i x k y k'
        split at h
        · rename_i hk
          subst hk
          injection h with h; subst h
          obtain ⟨v, rfl⟩ : ∃ v, vx = [v] := List.length_eq_one_iff.1 hx.1
          obtain ⟨u, rfl⟩ : ∃ v, vy = [v] := List.length_eq_one_iff.1 hy.1
          obtain ⟨h1, h2⟩ := hx.2 0 v _ rfl rfl
          obtain ⟨h3, h4⟩ := hy.2 0 u _ rfl rfl
          obtain ⟨i, hi, _⟩ := has_int.1 h2
          obtain ⟨j, hj, _⟩ := has_int.1 h4
          simp only at h1 h3 hi hj
          have e1 := (hi ▸ h1).inv_int
          have e2 := (hj ▸ h3).inv_int
          refine ⟨?_, ⟨_, rfl⟩, fun _ => by simp⟩
          simp only [valOf, ha, Bool.false_eq_true, if_false, List.getD_cons_zero, e1, e2, den, B.den, hi, hj, D.toI, D.toB]
          exact run_equalIn_int w (d + n) t k k0 i j hu
        · cases h
      · cases h
    · rename_i hu
      have ha : aggT P t = false := by unfold aggT; rw [hu]
      split at h
      · rename_i x y
        injection h with h; subst h
        obtain ⟨v, rfl⟩ : ∃ v, vx = [v] := List.length_eq_one_iff.1 hx.1
        obtain ⟨u, rfl⟩ : ∃ v, vy = [v] := List.length_eq_one_iff.1 hy.1
        obtain ⟨h1, h2⟩ := hx.2 0 v _ rfl rfl
        obtain ⟨h3, h4⟩ := hy.2 0 u _ rfl rfl
        obtain ⟨i, hi⟩ := has_bool.1 h2
        obtain ⟨j, hj⟩ := has_bool.1 h4
        simp only at h1 h3 hi hj
        have e1 := (hi ▸ h1).inv_bool
        have e2 := (hj ▸ h3).inv_bool
        refine ⟨?_, ⟨_, rfl⟩, fun _ => by simp⟩
        simp only [valOf, ha, Bool.false_eq_true, if_false, List.getD_cons_zero, e1, e2, den, B.den, hi, hj, D.toB]
        exact run_equalIn_bool' w (d + n) t i j hu
      · cases h
    · rename_i fs hu
      have ha : aggT P t = true := by unfold aggT; rw [hu]
      split at h
      · cases h
      · rename_i hst
        have hfo : P.fieldsOf t = fs := by unfold Program.fieldsOf; rw [hu]
        have hst' : P.stoodInHeld t = false := by simpa using hst
        have key : ∀ (l : List Field) (e : E), l.foldr (fun f acc => match acc, sizeT P f.type with
            | some r, some sz =>
              if f.name ≠ "_" ∧ f.offset + sz ≤ xs.length ∧ f.offset + sz ≤ ys.length then
                match eqE P n f.type ((xs.drop f.offset).take sz) ((ys.drop f.offset).take sz) with
                | some e => some (.bin .and e r)
                | none => none
              else none
            | _, _ => none) (some (.kbool true)) = some e →
            (Op.eqFields (d + n) vx.toArray vy.toArray l).run P w = .ok (den ρ e).toB w ∧ ∃ b, den ρ e = .bool b := by
          intro l
          induction l with
          | nil =>
            intro e he
            simp only [List.foldr_nil, Option.some.injEq] at he
            subst he
            exact ⟨rfl, _, rfl⟩
          | cons f l ih =>
            intro e he
            simp only [List.foldr_cons] at he
            split at he
            · rename_i r sz hr hsz
              split at he
              · rename_i hc
                split at he
                · rename_i e0 he0
                  injection he with he; subst he
                  obtain ⟨hr1, b, hb⟩ := ih r hr
                  have cx := hx.cut f.offset sz
                  have cy := hy.cut f.offset sz
                  obtain ⟨k1, ⟨b0, hb0⟩, k3⟩ := eqE_ok ρ S n f.type _ _ e0 he0 _ _ d cx cy
                  obtain ⟨dsc, hud⟩ : ∃ dsc, P.underlying f.type = some dsc := by
                    cases n with
                    | zero => cases he0
                    | succ n =>
                      unfold eqE at he0
                      cases hq : P.underlying f.type with
                      | none => rw [hq] at he0; cases he0
                      | some q => exact ⟨q, rfl⟩
                  have pos : aggT P f.type = false → 0 < sz := by
                    intro h; have := k3 h; simp only [List.length_take, List.length_drop] at this; omega
                  have p1 := run_part (w := w) hud hsz vx (by rw [hx.1]; exact hc.2.1) pos
                  have p2 := run_part (w := w) hud hsz vy (by rw [hy.1]; exact hc.2.2) pos
                  refine ⟨?_, _, rfl⟩
                  simp only [Op.eqFields, if_pos hc.1, Sem.run_bind, p1, p2, Result.andThen_ok, k1]
                  rw [hb0]
                  cases b0 with
                  | false => simp [D.toB, den, B.den, hb0]
                  | true => simpa [D.toB, den, B.den, hb0] using hr1
                · cases he
              · cases he
            · cases he
        obtain ⟨k1, k2⟩ := key fs.toList e h
        refine ⟨?_, k2, fun hf => by rw [ha] at hf; cases hf⟩
        simp only [valOf, ha, if_true]
        have := run_equalIn_struct (P := P) w (d + n) t vx.toArray vy.toArray (by rw [hfo]; exact hu) hst'
        rw [hfo] at this
        rw [show d + (n + 1) = d + n + 1 from rfl, this]
        exact k1
    · cases h

theorem cellsE_get (e : E) : ∀ (ts : List Ty) (j i : Nat), (cellsE e j ts)[i]? = (ts[i]?).map fun t => (E.un (.cell (j + i)) e, t)
  | [], j, i => by simp [cellsE]
  | t :: ts, j, 0 => by simp [cellsE]
  | t :: ts, j, i + 1 => by simp only [cellsE, List.getElem?_cons_succ, cellsE_get e ts (j + 1) i]; congr 2; funext t; congr 3; omega
theorem cellsE_len (e : E) : ∀ (ts : List Ty) (j : Nat), (cellsE e j ts).length = ts.length
  | [], _ => rfl
  | _ :: ts, j => by simp [cellsE, cellsE_len e ts]

theorem repC_cells {ρ : Nat → D} {S : Foot} {v : Value} {e : E} {fs : Ty} (hr : Rep w S v (den ρ e)) (hh : Has (.agg fs) (den ρ e)) : ∃ vs : List Value, v = .agg vs.toArray ∧ RepC ρ w S vs (cellsE e 0 fs.toL) := by
  obtain ⟨l, hl, hh', cs, rfl, hlen, hc⟩ := hr.aggOf hh
  refine ⟨cs, rfl, by rw [cellsE_len, hlen, hasL_len hh'], fun i v x hv hx => ?_⟩
  rw [cellsE_get] at hx
  simp only [Option.map_eq_some_iff] at hx
  obtain ⟨t, ht, rfl⟩ := hx
  obtain ⟨x, hx, hhx⟩ := hasL_get hh' i t ht
  have hd : den ρ (.un (.cell (0 + i)) e) = x := by simp only [den, U.den, hl, D.toL, Nat.zero_add]; exact toL_getD hx
  rw [hd]
  exact ⟨hc i v x hv hx, hhx⟩

theorem opBin_ok (ht : SimT C w G σ.tm a) (hpc : condB C.ρ pc = true) (h : opBin P σ pc o = some (s, is)) (hit : ∀ it ∈ is, ItemOk C Φ Pre it) : Gives P C w G a o s := by
  unfold opBin at h
  split at h
  · rename_i op xt x y yt ho
    have hexec : (execOp a.eval o) = (do let v ← (do eqGuard op xt x y (a.eval x) (a.eval y); binOp op xt (a.eval x) (a.eval y) : Sem Value); pure (.value v)) := by unfold execOp; simp only [ho]
    have fin : ∀ {v : Value}, (do eqGuard op xt x y (a.eval x) (a.eval y); binOp op xt (a.eval x) (a.eval y) : Sem Value).run P w = .ok v w → (execOp a.eval o).run P w = .ok (.value v) w := by
      intro v hv
      rw [hexec, Sem.run_bind, hv]; rfl
    split at h
    · rename_i ex k ey k' hx hy
      obtain ⟨x1, x2, x3⟩ := getD_ok ht hpc hx
      obtain ⟨y1, y2, y3⟩ := getD_ok ht hpc hy
      split at h
      · rename_i hk
        subst hk
        split at h
        · rename_i b isB nz hb
          injection h with h; simp only [Prod.mk.injEq] at h; obtain ⟨rfl, rfl⟩ := h
          obtain ⟨i, hi, hi'⟩ := has_int.1 x3
          obtain ⟨j, hj, _⟩ := has_int.1 y3
          have e1 := (hi ▸ x2).inv_int
          have e2 := (hj ▸ y2).inv_int
          have hnz : nz = true → j ≠ 0 := by
            rintro rfl
            have h7 : ItemOk C Φ Pre (.obl pc (.bin .ne ey (.kint k 0))) := hit _ (by simp)
            have := h7.2 hpc
            simpa [den, B.den, hj, D.toI, D.toB] using this
          obtain ⟨v, hv, hr⟩ := run_bin_int (P := P) (w := w) hb hi' hnz xt x y
          rw [← e1, ← e2] at hv
          refine ⟨v, fin hv, by simp [E.lt, x1, y1], ?_⟩
          simp only [den, hi, hj]
          exact hr G.S
        · cases h
      · cases h
    · rename_i ex ey hx hy
      obtain ⟨x1, x2, x3⟩ := getD_ok ht hpc hx
      obtain ⟨y1, y2, y3⟩ := getD_ok ht hpc hy
      obtain ⟨i, hi⟩ := has_bool.1 x3
      obtain ⟨j, hj⟩ := has_bool.1 y3
      have e1 := (hi ▸ x2).inv_bool
      have e2 := (hj ▸ y2).inv_bool
      split at h
      · rename_i hu
        injection h with h; simp only [Prod.mk.injEq] at h; obtain ⟨rfl, rfl⟩ := h
        refine ⟨.bool (i == j), fin ?_, by simp [E.lt, x1, y1], ?_, has_bool.2 ⟨_, rfl⟩⟩
        · rw [e1, e2]
          have := run_equalIn_bool' (P := P) w 9999 xt i j hu
          simp [eqGuard, binOp, Op.equal, Op.maxDepth, this]
        · simp only [den, B.den, hi, hj, D.toB]; exact .bool _
      · rename_i hu
        injection h with h; simp only [Prod.mk.injEq] at h; obtain ⟨rfl, rfl⟩ := h
        refine ⟨.bool (!(i == j)), fin ?_, by simp [E.lt, x1, y1], ?_, has_bool.2 ⟨_, rfl⟩⟩
        · rw [e1, e2]
          have := run_equalIn_bool' (P := P) w 9999 xt i j hu
          simp [eqGuard, binOp, Op.equal, Op.maxDepth, this]
        · simp only [den, B.den, U.den, hi, hj, D.toB]; exact .bool _
      · cases h
    · rename_i ex fs ey gs hx hy
      obtain ⟨x1, x2, x3⟩ := getD_ok ht hpc hx
      obtain ⟨y1, y2, y3⟩ := getD_ok ht hpc hy
      obtain ⟨vx, ex', rx⟩ := repC_cells x2 x3
      obtain ⟨vy, ey', ry⟩ := repC_cells y2 y3
      have ltc : ∀ {N : Nat} {e : E} (he : e.lt N = true) (j : Nat) (ts : List Ty), ∀ z ∈ cellsE e j ts, z.1.lt N = true := by
        intro N e he j ts z hz
        obtain ⟨i, hi⟩ := List.getElem?_of_mem hz
        rw [cellsE_get] at hi
        simp only [Option.map_eq_some_iff] at hi
        obtain ⟨t, _, rfl⟩ := hi
        simpa [E.lt] using he
      have lte : ∀ (N n : Nat) (t : TypeId) (xs ys : List (E × Ty)) (e : E), eqE P n t xs ys = some e → (∀ z ∈ xs, z.1.lt N = true) → (∀ z ∈ ys, z.1.lt N = true) → e.lt N = true := by
        intro N n
        induction n with
        | zero => intro t xs ys e h; cases h
        | succ n ih =>
          intro t xs ys e h hxs hys
          unfold eqE at h
          split at h
          · split at h
            · split at h
              · injection h with h; subst h
                have := hxs _ (List.mem_singleton.2 rfl); have := hys _ (List.mem_singleton.2 rfl); simp_all [E.lt]
              · cases h
            · cases h
          · split at h
            · injection h with h; subst h
              have := hxs _ (List.mem_singleton.2 rfl); have := hys _ (List.mem_singleton.2 rfl); simp_all [E.lt]
            · cases h
          · split at h
            · cases h
            · rename_i fs _ _
              revert h
              generalize fs.toList = l
              intro h
              induction l generalizing e with
              | nil => simp only [List.foldr_nil, Option.some.injEq] at h; subst h; rfl
              | cons f l ihl =>
                simp only [List.foldr_cons] at h
                split at h
                · rename_i r sz hr hsz
                  split at h
                  · split at h
                    · rename_i e0 he0
                      injection h with h; subst h
                      have h1 := ih f.type _ _ e0 he0 (fun z hz => hxs z (List.mem_of_mem_drop (List.mem_of_mem_take hz))) (fun z hz => hys z (List.mem_of_mem_drop (List.mem_of_mem_take hz)))
                      simp [E.lt, h1, ihl r hr]
                    · cases h
                  · cases h
                · cases h
          · cases h
      split at h
      · rename_i e ha hg he
        injection h with h; simp only [Prod.mk.injEq] at h; obtain ⟨rfl, rfl⟩ := h
        obtain ⟨k1, ⟨b, hb⟩, _⟩ := eqE_ok (P := P) (w := w) C.ρ G.S fuelT xt _ _ e he vx vy 9992 rx ry
        simp only [valOf, ha, if_true, fuelT] at k1
        refine ⟨.bool b, fin ?_, lte _ _ _ _ _ _ he (ltc x1 0 _) (ltc y1 0 _), by rw [hb]; exact .bool b, has_bool.2 ⟨b, hb⟩⟩
        rw [ex', ey']
        rw [Sem.run_bind, run_eqGuard_agg w .eql xt x y _ _ hg]
        simp only [Result.andThen_ok]
        rw [run_eql_struct, k1, hb]; rfl
      · rename_i e ha hg he
        injection h with h; simp only [Prod.mk.injEq] at h; obtain ⟨rfl, rfl⟩ := h
        obtain ⟨k1, ⟨b, hb⟩, _⟩ := eqE_ok (P := P) (w := w) C.ρ G.S fuelT xt _ _ e he vx vy 9992 rx ry
        simp only [valOf, ha, if_true, fuelT] at k1
        refine ⟨.bool (!b), fin ?_, by simpa [E.lt] using lte _ _ _ _ _ _ he (ltc x1 0 _) (ltc y1 0 _), by simp only [den, U.den, hb, D.toB]; exact .bool _, has_bool.2 ⟨!b, by simp only [den, U.den, hb, D.toB]⟩⟩
        rw [ex', ey']
        rw [Sem.run_bind, run_eqGuard_agg w .neq xt x y _ _ hg]
        simp only [Result.andThen_ok]
        rw [run_neq_struct, k1, hb]; rfl
      · cases h
    · rename_i ex fs gs hx hy
      obtain ⟨x1, x2, x3⟩ := getD_ok ht hpc hx
      obtain ⟨y1, y2, y3⟩ := getD_ok ht hpc hy
      have e2 : a.eval y = .pointer none := by simp only [den] at y2; exact y2.inv_nilp
      have e1 : ∃ p, a.eval x = .pointer p ∧ p.isNone = (den C.ρ ex).isNilp := by
        rcases has_ptr.1 x3 with hn | ⟨l, hl, _⟩
        · exact ⟨none, (hn ▸ x2).inv_nilp, by rw [hn]; rfl⟩
        · obtain ⟨b, cs, hv, _⟩ := (hl ▸ x2).inv_ptr
          exact ⟨_, hv, by rw [hl]; rfl⟩
      obtain ⟨p, hp, hpn⟩ := e1
      split at h
      · rename_i el hu
        injection h with h; simp only [Prod.mk.injEq] at h; obtain ⟨rfl, rfl⟩ := h
        refine ⟨.bool p.isNone, fin ?_, by simpa [E.lt] using x1, by simp only [den, U.den, ← hpn]; exact .bool _, has_bool.2 ⟨_, rfl⟩⟩
        rw [hp, e2]
        exact run_eq_nilptr hu p x y
      · rename_i el hu
        injection h with h; simp only [Prod.mk.injEq] at h; obtain ⟨rfl, rfl⟩ := h
        refine ⟨.bool (!p.isNone), fin ?_, by simpa [E.lt] using x1, by simp only [den, U.den, D.toB, ← hpn]; exact .bool _, has_bool.2 ⟨_, rfl⟩⟩
        rw [hp, e2]
        exact run_ne_nilptr hu p x y
      · cases h
    · cases h
  · cases h

theorem opBinAdr_ok (ht : SimT C w G σ.tm a) (hpc : condB C.ρ pc = true) (h : opBinAdr P σ pc o = some (s, is)) : Gives P C w G a o s := by
  unfold opBinAdr at h
  split at h
  · rename_i op xt x y yt ho
    have fin : ∀ {v : Value}, (do eqGuard op xt x y (a.eval x) (a.eval y); binOp op xt (a.eval x) (a.eval y) : Sem Value).run P w = .ok v w → (execOp a.eval o).run P w = .ok (.value v) w := by
      intro v hv
      have hexec : (execOp a.eval o) = (do let v ← (do eqGuard op xt x y (a.eval x) (a.eval y); binOp op xt (a.eval x) (a.eval y) : Sem Value); pure (.value v)) := by unfold execOp; simp only [ho]
      rw [hexec, Sem.run_bind, hv]; rfl
    split at h
    · rename_i id off ps el hx hy hu
      have e1 := (getV_ok ht hpc hx).2
      obtain ⟨_, y2, _⟩ := getD_ok ht hpc hy
      have e2 : a.eval y = .pointer none := by simp only [den] at y2; exact y2.inv_nilp
      split at h
      · injection h with h; simp only [Prod.mk.injEq] at h; obtain ⟨rfl, rfl⟩ := h
        refine ⟨.bool false, fin ?_, rfl, .bool _, has_bool.2 ⟨_, rfl⟩⟩
        rw [e1, e2]
        exact run_eq_nilptr hu _ x y
      · injection h with h; simp only [Prod.mk.injEq] at h; obtain ⟨rfl, rfl⟩ := h
        refine ⟨.bool true, fin ?_, rfl, .bool _, has_bool.2 ⟨_, rfl⟩⟩
        rw [e1, e2]
        exact run_ne_nilptr hu _ x y
      · cases h
    · cases h
  · cases h
theorem opBin2_ok (ht : SimT C w G σ.tm a) (hpc : condB C.ρ pc = true) (h : opBin2 P σ pc o = some (s, is)) (hit : ∀ it ∈ is, ItemOk C Φ Pre it) : Gives P C w G a o s := by
  unfold opBin2 at h
  split at h
  · rename_i r hr
    injection h with h; subst h
    exact opBinAdr_ok ht hpc hr
  · exact opBin_ok ht hpc h hit

end
end Go.Eng
