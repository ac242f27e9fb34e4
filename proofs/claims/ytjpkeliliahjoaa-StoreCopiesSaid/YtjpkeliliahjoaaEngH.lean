/-
  The other operations that leave memory alone.
-/
import Derived.Test.YtjpkeliliahjoaaEngG
namespace Go.Eng
open Go Go.RowKit

section
variable {P : Program} {C : Cx} {w w0 : World} {S0 : Base} {G : Gh} {σ : St} {a : Act} {o : Oper} {pc : Cond} {s : SV} {is : List Item} {Φ : Nat → List D → D} {Pre : Nat → List D → Prop}

theorem opUn_ok (ht : SimT C w G σ.tm a) (hpc : condB C.ρ pc = true) (h : opUn P σ pc o = some (s, is)) : Gives P C w G a o s := by
  unfold opUn at h
  split at h
  · rename_i t x ho
    split at h
    · rename_i e he
      injection h with h; simp only [Prod.mk.injEq] at h; obtain ⟨rfl, rfl⟩ := h
      obtain ⟨x1, x2, x3⟩ := getD_ok ht hpc he
      obtain ⟨b, hb⟩ := has_bool.1 x3
      have e1 := (hb ▸ x2).inv_bool
      refine ⟨.bool (!b), by unfold execOp; simp only [ho, e1]; rfl, by simpa [E.lt] using x1, ?_, has_bool.2 ⟨_, rfl⟩⟩
      simp only [den, U.den, hb, D.toB]; exact .bool _
    · cases h
  · rename_i t x ho
    split at h
    · rename_i e k he
      injection h with h; simp only [Prod.mk.injEq] at h; obtain ⟨rfl, rfl⟩ := h
      obtain ⟨x1, x2, x3⟩ := getD_ok ht hpc he
      obtain ⟨b, hb, _⟩ := has_int.1 x3
      have e1 := (hb ▸ x2).inv_int
      refine ⟨.int k (k.wrap (0 - b)), by unfold execOp; simp only [ho, e1]; rfl, by simpa [E.lt] using x1, ?_, has_int.2 ⟨_, rfl, inK_wrap _ _⟩⟩
      simp only [den, U.den, hb, D.toI]; exact .int _ _
    · cases h
  · rename_i s' d x ho
    split at h
    · rename_i e k0 k1 k he hs hd
      injection h with h; simp only [Prod.mk.injEq] at h; obtain ⟨rfl, rfl⟩ := h
      obtain ⟨x1, x2, x3⟩ := getD_ok ht hpc he
      obtain ⟨b, hb, _⟩ := has_int.1 x3
      have e1 := (hb ▸ x2).inv_int
      refine ⟨.int k (k.wrap b), ?_, by simpa [E.lt] using x1, ?_, has_int.2 ⟨_, rfl, inK_wrap _ _⟩⟩
      · unfold execOp; simp only [ho, e1, convert]
        simp [run_underlying hs, run_underlying hd, Conv.intToInt]
      · simp only [den, U.den, hb, D.toI]; exact .int _ _
    · cases h
  · cases h

theorem opExtract_ok (ht : SimT C w G σ.tm a) (hpc : condB C.ρ pc = true) (h : opExtract P σ pc o = some (s, is)) : Gives P C w G a o s := by
  unfold opExtract at h
  split at h
  · rename_i x j ho
    split at h
    · rename_i l hl
      obtain ⟨vs, hv, hlen, hc⟩ := getV_ok ht hpc hl
      split at h
      · rename_i cs hj
        injection h with h; simp only [Prod.mk.injEq] at h; obtain ⟨rfl, rfl⟩ := h
        have hjl : j < vs.length := by rw [hlen]; exact (List.getElem?_eq_some_iff.1 hj).1
        have hvj : vs[j]? = some vs[j] := List.getElem?_eq_getElem hjl
        refine ⟨vs[j], ?_, ?_⟩
        · unfold execOp; simp only [ho, hv, Instr.extract]
          simp [hjl]
        · have := hc j _ _ hj hvj
          simpa [RComp, RSV] using this
      · rename_i c hj
        injection h with h; simp only [Prod.mk.injEq] at h; obtain ⟨rfl, rfl⟩ := h
        have hjl : j < vs.length := by rw [hlen]; exact (List.getElem?_eq_some_iff.1 hj).1
        have hvj : vs[j]? = some vs[j] := List.getElem?_eq_getElem hjl
        refine ⟨vs[j], ?_, ?_⟩
        · unfold execOp; simp only [ho, hv, Instr.extract]
          simp [hjl]
        · have := hc j _ _ hj hvj
          simpa [RComp, RSV] using this
      · cases h
    · cases h
  · cases h

theorem fieldOf_ok {t : TypeId} {f : Nat} {fl : Field} {n : Nat} (h : fieldOf P t f = some (fl, n)) : ∃ fs, P.underlying t = some (.struct fs) ∧ fs[f]? = some fl ∧ sizeT P fl.type = some n := by
  unfold fieldOf at h
  split at h
  · rename_i fs hu
    split at h
    · rename_i fl' hf
      simp only [Option.map_eq_some_iff, Prod.mk.injEq] at h
      obtain ⟨n', h1, rfl, rfl⟩ := h
      exact ⟨fs, hu, hf, h1⟩
    · cases h
  · cases h

theorem run_fieldAt {t : TypeId} {f : Nat} {fl : Field} {n : Nat} (h : fieldOf P t f = some (fl, n + 1)) (b o : Nat) :
    (Instr.fieldAt t (.pointer (some ⟨b, o, none⟩)) f).run P w = .ok (.pointer (some ⟨b, o + fl.offset, none⟩)) w := by
  obtain ⟨fs, hu, hf, hs⟩ := fieldOf_ok h
  have h1 := run_sizeT (P := P) (w := w) hs
  simp [Instr.fieldAt, run_underlying hu, hf, Instr.sureAddr, fieldPlace, h1, addr_add]

theorem opFieldAddr_ok (ht : SimT C w G σ.tm a) (hpc : condB C.ρ pc = true) (h : opFieldAddr P σ pc o = some (s, is)) : Gives P C w G a o s := by
  unfold opFieldAddr at h
  split at h
  · rename_i t x f ho
    have fin : ∀ {v u : Value}, a.eval x = v → (Instr.fieldAt t v f).run P w = .ok u w → (execOp a.eval o).run P w = .ok (.value u) w := by
      intro v u hv hr
      unfold execOp; simp only [ho, hv]
      rw [Sem.run_bind, hr]; rfl
    split at h
    · rename_i fl n id off hf hx
      injection h with h; simp only [Prod.mk.injEq] at h; obtain ⟨rfl, rfl⟩ := h
      obtain ⟨h1, h2⟩ := getV_ok ht hpc hx
      exact ⟨_, fin h2 (run_fieldAt hf _ _), h1, rfl⟩
    · rename_i fl n l i u off hf hx
      injection h with h; simp only [Prod.mk.injEq] at h; obtain ⟨rfl, rfl⟩ := h
      obtain ⟨h1, h2, b, o', u', hv, hh, hc⟩ := getV_ok ht hpc hx
      exact ⟨_, fin hv (run_fieldAt hf _ _), h1, h2, b, o', u', by rw [Nat.add_assoc], hh, hc⟩
    · rename_i fl n e fs off hf hx
      injection h with h; simp only [Prod.mk.injEq] at h; obtain ⟨rfl, rfl⟩ := h
      obtain ⟨h1, b, l, u', hd, hl, hv, hc⟩ := getV_ok ht hpc hx
      exact ⟨_, fin hv (run_fieldAt hf _ _), h1, b, l, u', hd, hl, rfl, hc⟩
    · rename_i fl n e fs hf hx
      injection h with h; simp only [Prod.mk.injEq] at h; obtain ⟨rfl, rfl⟩ := h
      obtain ⟨h1, h2, h3⟩ := getV_ok ht hpc hx
      obtain ⟨l, hl, hh⟩ := has_box.1 h3
      obtain ⟨b, cs, hv, hlen, hS, hc, hr⟩ := (hl ▸ h2).inv_ptr
      refine ⟨_, fin hv (run_fieldAt hf _ _), h1, b, l, fun j => cs.getD j undef, hl, hh, by rw [Nat.zero_add], fun j c hj => ?_⟩
      have hjl : j < cs.length := by rw [hlen]; exact (List.getElem?_eq_some_iff.1 hj).1
      have e1 : cs[j]? = some (cs.getD j undef) := by simp [List.getD, hjl]
      exact ⟨hS j (by omega), hc j _ e1, hr j _ c e1 hj⟩
    · rename_i fl n g i u off hf hx
      injection h with h; simp only [Prod.mk.injEq] at h; obtain ⟨rfl, rfl⟩ := h
      obtain ⟨h1, h2, b, cap, m, h3, h4, h5, hv⟩ := getV_ok ht hpc hx
      exact ⟨_, fin hv (run_fieldAt hf _ _), h1, h2, b, cap, m, h3, h4, h5, by rw [Nat.add_assoc]⟩
    · cases h
  · cases h

theorem RSCs.cut {l : List SC} {vs : List Value} (h : RSCs C w G l vs) (off n : Nat) : RSCs C w G ((l.drop off).take n) ((vs.drop off).take n) := by
  refine ⟨by simp [h.1], fun i c v hc hv => ?_⟩
  simp only [List.getElem?_take, List.getElem?_drop] at hv hc
  split at hv
  · rename_i hi; rw [if_pos hi] at hc; exact h.2 _ c v hc hv
  · cases hv

theorem aggCells_ok {s : SV} {l : List SC} {v : Value} (h : aggCells s = some l) (hr : RSV C w G s v) : ∃ vs : List Value, v = .agg vs.toArray ∧ RSCs C w G l vs := by
  unfold aggCells at h
  split at h
  · injection h with h; subst h; exact hr
  · rename_i e fs
    injection h with h; subst h
    obtain ⟨h1, h2, h3⟩ := hr
    obtain ⟨l, hl, hh, cs, rfl, hlen, hc⟩ := h2.aggOf h3
    refine ⟨cs, rfl, by rw [idxCells_len, hlen, hasL_len hh], fun i c v hi hv => ?_⟩
    rw [idxCells_get] at hi
    simp only [Option.map_eq_some_iff] at hi
    obtain ⟨t, ht, rfl⟩ := hi
    obtain ⟨x, hx, hhx⟩ := hasL_get hh i t ht
    have hd : den C.ρ (.un (.cell (0 + i)) e) = x := by simp only [den, U.den, hl, D.toL, Nat.zero_add]; exact toL_getD hx
    exact ⟨by simpa [E.lt] using h1, by rw [hd]; exact hc i v x hv hx, by rw [hd]; exact hhx⟩
  · cases h

theorem opField_ok (ht : SimT C w G σ.tm a) (hpc : condB C.ρ pc = true) (h : opField P σ pc o = some (s, is)) : Gives P C w G a o s := by
  unfold opField at h
  split at h
  · rename_i t x f ho
    split at h
    · rename_i fl n cs hf hx
      cases hg : getV P σ pc x t with
      | none => simp [hg] at hx
      | some sv =>
        simp only [hg, Option.bind_some] at hx
        split at h
        · rename_i hcond
          obtain ⟨hsome, hle⟩ := hcond
          obtain ⟨dsc, hq⟩ := Option.isSome_iff_exists.1 hsome
          obtain ⟨vs, hv', hr⟩ := aggCells_ok hx (getV_ok ht hpc hg)
          obtain ⟨fs, hu, hff, hs⟩ := fieldOf_ok hf
          have fin : ∀ {u : Value}, (part fl.type vs.toArray fl.offset).run P w = .ok u w → (execOp a.eval o).run P w = .ok (.value u) w := by
            intro u hp
            unfold execOp; simp only [ho, hv', Instr.field, asAgg]
            simp [run_underlying hu, hff, hp]
          have hlen : fl.offset + n ≤ vs.length := by rw [hr.1]; exact hle
          split at h
          · rename_i ha
            injection h with h; simp only [Prod.mk.injEq] at h; obtain ⟨rfl, rfl⟩ := h
            have hp := run_part (w := w) hq hs vs hlen (fun h => by rw [ha] at h; cases h)
            simp only [valOf, ha, if_true] at hp
            exact ⟨_, fin hp, _, rfl, hr.cut _ _⟩
          · rename_i ha
            split at h
            · rename_i hn
              split at h
              · rename_i c hc
                injection h with h; simp only [Prod.mk.injEq] at h; obtain ⟨rfl, rfl⟩ := h
                have hp := run_part (w := w) hq hs vs hlen (fun _ => hn)
                have hlt : fl.offset < vs.length := by omega
                have e2 : ((vs.drop fl.offset).take n).getD 0 undef = vs[fl.offset] := by
                  simp [List.getD, List.getElem?_drop, hn, hlt]
                simp only [valOf, ha, Bool.false_eq_true, if_false, e2] at hp
                exact ⟨_, fin hp, hr.2 _ c _ hc (List.getElem?_eq_getElem hlt)⟩
              · cases h
            · cases h
        · cases h
    · cases h
  · cases h

theorem opIndexSl_ok (ht : SimT C w G σ.tm a) (hpc : condB C.ρ pc = true) (h : opIndexSl P σ pc o = some (s, is)) (hit : ∀ it ∈ is, ItemOk C Φ Pre it) : Gives P C w G a o s := by
  unfold opIndexSl at h
  split at h
  · rename_i t x i ho
    split at h
    · rename_i el e u ie k hu hx hi
      split at h
      · rename_i hsz
        obtain ⟨hsz, hpos⟩ := hsz
        injection h with h; simp only [Prod.mk.injEq] at h; obtain ⟨rfl, rfl⟩ := h
        obtain ⟨x1, x2, x3⟩ := getD_ok ht hpc hx
        obtain ⟨y1, y2, y3⟩ := getD_ok ht hpc hi
        obtain ⟨l, hl, hlm, hall⟩ := has_list.1 x3
        obtain ⟨n, hn, _⟩ := has_int.1 y3
        have hob : ItemOk C Φ Pre (.obl pc (.bin .and (.bin .le (.kint k 0) ie) (.bin .lt ie (.un .len e)))) := hit _ (by simp)
        have hb := hob.2 hpc
        simp only [den, B.den, U.den, hl, hn, D.toI, D.toB, D.toL, Bool.and_eq_true, decide_eq_true_eq] at hb
        obtain ⟨hb0, hb1⟩ := hb
        have hlt : n.toNat < l.length := by omega
        have hli : l[n.toNat]? = some l[n.toNat] := List.getElem?_eq_getElem hlt
        have hden : den C.ρ (.bin .idx e ie) = l[n.toNat] := by
          simp only [den, B.den, hl, hn, D.toI, D.toL]; exact toL_getD hli
        have hhas := hall _ (List.mem_of_getElem? hli)
        have hwd := (has_cells hhas).1
        obtain ⟨b, off, cap, uu, hv, hc⟩ := (hl ▸ x2).inv_elem hli
        have hvi : a.eval i = .int k n := (hn ▸ y2).inv_int
        refine ⟨.pointer (some ⟨b, off + n.toNat * u.cells.length, none⟩), ?_, x1, y1, b, off + n.toNat * u.cells.length, uu, by simp, by rw [hden]; exact hhas, ?_⟩
        · have h1 := run_sizeT (P := P) (w := w) hsz
          unfold execOp; simp only [ho, hv, hvi, Instr.indexAt, asIntOf]
          simp [run_underlying hu, hb0, hb1, h1, addr_add]
        · intro j c hj
          rw [hden] at hj
          rw [← hwd]
          exact hc j c hj
      · cases h
    · cases h
  · cases h

theorem opIndexArr_ok (ht : SimT C w G σ.tm a) (hpc : condB C.ρ pc = true) (h : opIndexArr P σ pc o = some (s, is)) : Gives P C w G a o s := by
  unfold opIndexArr at h
  split at h
  · rename_i t x k n ho
    split at h
    · rename_i len el id off hu hx
      split at h
      · rename_i sz hsz
        split at h
        · rename_i hn
          obtain ⟨hn0, hn1⟩ := hn
          injection h with h; simp only [Prod.mk.injEq] at h; obtain ⟨rfl, rfl⟩ := h
          obtain ⟨h1, h2⟩ := getV_ok ht hpc hx
          refine ⟨.pointer (some ⟨G.β id, off + n.toNat * sz, none⟩), ?_, h1, rfl⟩
          have h3 := run_sizeT (P := P) (w := w) hsz
          have hv : a.eval (.const (.int k n)) = .int k n := rfl
          unfold execOp; simp only [ho, h2, hv, Instr.indexAt, asIntOf]
          simp [run_underlying hu, hn0, hn1, h3, addr_add, Instr.sureAddr]
        · cases h
      · cases h
    · cases h
  · cases h
theorem opIndexAddr_ok (ht : SimT C w G σ.tm a) (hpc : condB C.ρ pc = true) (h : opIndexAddr P σ pc o = some (s, is)) (hit : ∀ it ∈ is, ItemOk C Φ Pre it) : Gives P C w G a o s := by
  unfold opIndexAddr at h
  split at h
  · rename_i y hy
    injection h with h; subst h
    exact opIndexArr_ok ht hpc hy
  · exact opIndexSl_ok ht hpc h hit

theorem opNil_ok (ht : SimT C w G σ.tm a) (hpc : condB C.ρ pc = true) (h : opNil P σ pc o = some (s, is)) (hit : ∀ it ∈ is, ItemOk C Φ Pre it) : Gives P C w G a o s := by
  unfold opNil at h
  split at h
  · rename_i x ho
    have fin : ∀ {ad : Addr}, a.eval x = .pointer (some ad) → (execOp a.eval o).run P w = .ok (.value (.pointer (some ad))) w := by
      intro ad hv
      unfold execOp; simp only [ho, hv]; rfl
    split at h
    · rename_i id off hx
      injection h with h; simp only [Prod.mk.injEq] at h; obtain ⟨rfl, rfl⟩ := h
      have hr := getV_ok ht hpc hx
      exact ⟨_, fin hr.2, hr.1, rfl⟩
    · rename_i e fs off hx
      injection h with h; simp only [Prod.mk.injEq] at h; obtain ⟨rfl, rfl⟩ := h
      have hr := getV_ok ht hpc hx
      obtain ⟨h1, b, l, u', hd, hl, hv, hc⟩ := hr
      exact ⟨_, fin hv, h1, b, l, u', hd, hl, rfl, hc⟩
    · rename_i l i u off hx
      injection h with h; simp only [Prod.mk.injEq] at h; obtain ⟨rfl, rfl⟩ := h
      have hr := getV_ok ht hpc hx
      obtain ⟨h1, h2, b, o', u', hv, hh, hc⟩ := hr
      exact ⟨_, fin hv, h1, h2, b, o', u', rfl, hh, hc⟩
    · rename_i g i u off hx
      injection h with h; simp only [Prod.mk.injEq] at h; obtain ⟨rfl, rfl⟩ := h
      have hr := getV_ok ht hpc hx
      obtain ⟨h1, h2, b, cap, m, h3, h4, h5, hv⟩ := hr
      exact ⟨_, fin hv, h1, h2, b, cap, m, h3, h4, h5, rfl⟩
    · rename_i e fs hx
      injection h with h; simp only [Prod.mk.injEq] at h; obtain ⟨rfl, rfl⟩ := h
      have hr := getV_ok ht hpc hx
      obtain ⟨h1, h2, h3⟩ := hr
      obtain ⟨l, hl, hh⟩ := has_box.1 h3
      obtain ⟨b, cs, hv, _⟩ := (hl ▸ h2).inv_ptr
      exact ⟨_, fin hv, h1, by rw [← hv]; exact h2, h3⟩
    · rename_i e fs hx
      injection h with h; simp only [Prod.mk.injEq] at h; obtain ⟨rfl, rfl⟩ := h
      have hr := getV_ok ht hpc hx
      obtain ⟨h1, h2, h3⟩ := hr
      have hob : ItemOk C Φ Pre (.obl pc (.un .not (.un .isnil e))) := hit _ (by simp)
      have hb := hob.2 hpc
      rcases has_ptr.1 h3 with hn | ⟨l, hl, hh⟩
      · simp [den, U.den, hn, D.isNilp, D.toB] at hb
      · obtain ⟨b, cs, hv, _⟩ := (hl ▸ h2).inv_ptr
        exact ⟨_, fin hv, h1, by rw [← hv]; exact h2, has_box.2 ⟨l, hl, hh⟩⟩
    · cases h
  · cases h

/-- A load of cells that stand at an address. -/
theorem run_load_cells {t : TypeId} {n : Nat} (hs : sizeT P t = some n) (ha : aggT P t = true) {b off : Nat} {vs : List Value} (hl : vs.length = n)
    (hc : ∀ (j : Nat) v, vs[j]? = some v → w.cell? ⟨b, off + j, none⟩ = some v) : (Instr.loadAt t (.pointer (some ⟨b, off, none⟩))).run P w = .ok (.agg vs.toArray) w := by
  have hu : ∃ d, P.underlying t = some d := by
    unfold aggT at ha
    cases hq : P.underlying t with
    | none => rw [hq] at ha; cases ha
    | some d => exact ⟨d, rfl⟩
  obtain ⟨d, hu⟩ := hu
  have h1 := run_isAgg (P := P) (w := w) hu
  have h2 := run_loadCells_list (P := P) w ⟨b, off, none⟩ vs (fun j v hv => by rw [addr_add]; exact hc j v hv)
  rw [ha] at h1
  simp [Instr.loadAt, Instr.sureAddr, loadVar, h1, run_sizeT hs, ← hl, h2]

theorem run_load_one {t : TypeId} (ha : aggT P t = false) (hu : (P.underlying t).isSome = true) {ad : Addr} {v : Value} (hc : w.cell? ad = some v) : (Instr.loadAt t (.pointer (some ad))).run P w = .ok v w := by
  obtain ⟨d, hu⟩ := Option.isSome_iff_exists.1 hu
  have h1 := run_isAgg (P := P) (w := w) hu
  rw [ha] at h1
  simp [Instr.loadAt, Instr.sureAddr, loadVar, h1, hc]

theorem elemLoad_ok {T : TypeId} {e : E} {u : Ty} {off : Nat} (h : elemLoad P T e u off = some (s, is)) (hu : (P.underlying T).isSome = true) {b o' : Nat} {uu : Nat → Value}
    (he : e.lt C.N = true) (hh : Has u (den C.ρ e)) (hc : ∀ (j : Nat) c, (den C.ρ e).cells[j]? = some c → w.cell? ⟨b, o' + j, none⟩ = some (uu j) ∧ Rep w G.S (uu j) c) :
    ∃ v, (Instr.loadAt T (.pointer (some ⟨b, o' + off, none⟩))).run P w = .ok v w ∧ RSV C w G s v := by
  have scal : ∀ {t : Ty} {e' : E} {c : D}, aggT P T = false → e'.lt C.N = true → den C.ρ e' = c → (den C.ρ e).cells[off]? = some c → Has t c → s = .one (.dat e' t) → ∃ v, (Instr.loadAt T (.pointer (some ⟨b, o' + off, none⟩))).run P w = .ok v w ∧ RSV C w G s v := by
    intro t e' c ha hlt hd hj hhc hs
    subst hs
    obtain ⟨h2, h3⟩ := hc off c hj
    exact ⟨_, run_load_one ha hu h2, hlt, by rw [hd]; exact h3, by rw [hd]; exact hhc⟩
  unfold elemLoad at h
  split at h
  · rename_i fs n hs
    obtain ⟨l, hl, hhl⟩ := has_agg.1 hh
    have hlen := hasL_len hhl
    rw [hl] at hc scal
    simp only [D.cells] at hc scal
    split at h
    · rename_i ha
      split at h
      · rename_i hcnd
        obtain ⟨rfl, hn⟩ := hcnd
        injection h with h; simp only [Prod.mk.injEq] at h; obtain ⟨rfl, rfl⟩ := h
        have hvs : ((List.range n).map uu).length = n := by simp
        refine ⟨_, run_load_cells hs ha (vs := (List.range n).map uu) hvs (fun j v hv => ?_), he, ?_, hh⟩
        · have hj : j < n := by have := (List.getElem?_eq_some_iff.1 hv).1; simpa using this
          simp only [List.getElem?_map, List.getElem?_range hj, Option.map_some, Option.some.injEq] at hv
          subst hv
          have hjl : l[j]? = some l[j] := List.getElem?_eq_getElem (by omega)
          exact (hc j _ hjl).1
        · rw [hl]
          refine .agg _ l (by simp [hlen, hn]) fun i v d hi hd => ?_
          have hj : i < n := by have := (List.getElem?_eq_some_iff.1 hi).1; simpa using this
          simp only [List.getElem?_map, List.getElem?_range hj, Option.map_some, Option.some.injEq] at hi
          subst hi
          exact (hc i d hd).2
      · split at h
        · rename_i hle
          injection h with h; simp only [Prod.mk.injEq] at h; obtain ⟨rfl, rfl⟩ := h
          have hvs : ((List.range n).map fun j => uu (off + j)).length = n := by simp
          have hd : den C.ρ (.un (.part off n) e) = .agg ((l.drop off).take n) := by simp only [den, U.den, hl, D.toL]
          refine ⟨_, run_load_cells hs ha (vs := (List.range n).map fun j => uu (off + j)) hvs (fun j v hv => ?_), by simpa [E.lt] using he, ?_, ?_⟩
          · have hj : j < n := by have := (List.getElem?_eq_some_iff.1 hv).1; simpa using this
            simp only [List.getElem?_map, List.getElem?_range hj, Option.map_some, Option.some.injEq] at hv
            subst hv
            have hjl : l[off + j]? = some l[off + j] := List.getElem?_eq_getElem (by omega)
            rw [Nat.add_assoc]
            exact (hc _ _ hjl).1
          · rw [hd]
            refine .agg _ _ (by simp; omega) fun i v d hi hd => ?_
            have hj : i < n := by have := (List.getElem?_eq_some_iff.1 hi).1; simpa using this
            simp only [List.getElem?_map, List.getElem?_range hj, Option.map_some, Option.some.injEq] at hi
            subst hi
            simp only [List.getElem?_take, List.getElem?_drop, if_pos hj] at hd
            exact (hc _ d hd).2
          · rw [hd]
            refine has_agg.2 ⟨_, rfl, hasL_mk (by simp; omega) fun j u x hj hx => ?_⟩
            simp only [List.getElem?_take, List.getElem?_drop] at hj hx
            split at hj
            · rename_i hjn
              rw [if_pos hjn] at hx
              obtain ⟨y, hy, hhy⟩ := hasL_get hhl _ u hj
              rw [hx] at hy; injection hy with hy; subst hy; exact hhy
            · cases hj
        · cases h
    · rename_i ha
      split at h
      · rename_i t htt
        split at h
        · injection h with h; simp only [Prod.mk.injEq] at h; obtain ⟨rfl, rfl⟩ := h
          obtain ⟨x, hx, hhx⟩ := hasL_get hhl off t htt
          have hd : den C.ρ (.un (.cell off) e) = x := by simp only [den, U.den, hl, D.toL]; exact toL_getD hx
          exact scal (by simpa using ha) (by simpa [E.lt] using he) hd hx hhx rfl
        · cases h
      · cases h
  · rename_i u _ _ _
    split at h
    · rename_i hcnd
      obtain ⟨ha, rfl, hsc⟩ := hcnd
      injection h with h; simp only [Prod.mk.injEq] at h; obtain ⟨rfl, rfl⟩ := h
      obtain ⟨k1, k2⟩ := has_cells hh
      have hu1 : u.cells = [u] := by cases u <;> first | rfl | cases hsc
      rw [hu1] at k1 k2
      obtain ⟨x, hx, hhx⟩ := k2 0 u rfl
      have hxd : x = den C.ρ e := by
        generalize den C.ρ e = d at *
        cases u <;> (first | cases hsc | skip) <;> simp only [has_int, has_bool, has_str, has_list, has_box, has_ptr, has_fn] at hh
        case ptr => rcases hh with rfl | ⟨n, rfl, _⟩ <;> (simp [D.cells] at hx; exact hx.symm)
        all_goals first
          | (obtain ⟨n, rfl, _⟩ := hh; simp [D.cells] at hx; exact hx.symm)
          | (obtain ⟨n, rfl⟩ := hh; simp [D.cells] at hx; exact hx.symm)
      exact scal ha he hxd.symm hx (by rw [hxd]; exact hh) rfl
    · cases h

theorem opLoad_ok {rd : List Nat} (hm : SimM w0 S0 C G σ w) (ht : SimT C w G σ.tm a) (hpc : condB C.ρ pc = true) (h : opLoad P σ pc o = some ((s, is), rd)) : Gives P C w G a o s := by
  unfold opLoad at h
  split at h
  · rename_i t x ho
    have fin : ∀ {v u : Value}, a.eval x = v → (Instr.loadAt t v).run P w = .ok u w → (execOp a.eval o).run P w = .ok (.value u) w := by
      intro v u hv hr
      unfold execOp; simp only [ho, hv]
      rw [Sem.run_bind, hr]; rfl
    split at h
    · cases h
    · rename_i hsome
      have hsome : (P.underlying t).isSome = true := by cases hq : P.underlying t <;> simp [hq] at hsome ⊢
      split at h
      · rename_i id off hx
        have hv := (getV_ok ht hpc hx).2
        split at h
        · rename_i ro cs hid
          obtain ⟨_, _, ⟨vs, T, hg, hr⟩, _⟩ := hm.box id ro cs hid
          have hcell : ∀ j, w.cell? ⟨G.β id, j, none⟩ = vs[j]? := by intro j; rw [cell_of_row w _ j _ T _ hg]; simp
          split at h
          · rename_i ha
            split at h
            · rename_i n hs
              split at h
              · rename_i hle
                injection h with h; simp only [Prod.mk.injEq] at h; obtain ⟨⟨rfl, rfl⟩, rfl⟩ := h
                have hlen : ((vs.drop off).take n).length = n := by have := hr.1; simp; omega
                refine ⟨_, fin hv (run_load_cells hs ha hlen (fun j v hj => ?_)), _, rfl, hr.cut off n⟩
                rw [hcell]
                simp only [List.getElem?_take, List.getElem?_drop] at hj
                split at hj
                · exact hj
                · cases hj
              · cases h
            · cases h
          · rename_i ha
            split at h
            · rename_i c hc
              injection h with h; simp only [Prod.mk.injEq] at h; obtain ⟨⟨rfl, rfl⟩, rfl⟩ := h
              have hlt : off < vs.length := by rw [hr.1]; exact (List.getElem?_eq_some_iff.1 hc).1
              have hvo : vs[off]? = some vs[off] := List.getElem?_eq_getElem hlt
              exact ⟨_, fin hv (run_load_one (by simpa using ha) hsome ((hcell off).trans hvo)), hr.2 off c _ hc hvo⟩
            · cases h
        · cases h
      · rename_i l i u off hx
        simp only [Option.map_eq_some_iff, Prod.mk.injEq] at h
        obtain ⟨⟨s', is'⟩, h1, ⟨rfl, rfl⟩, rfl⟩ := h
        obtain ⟨h2, h3, b, o', uu, hv, hh, hc⟩ := getV_ok ht hpc hx
        obtain ⟨v, k1, k2⟩ := elemLoad_ok (P := P) (C := C) (w := w) (G := G) h1 hsome (by simp [E.lt, h2, h3]) hh (fun j c hj => (hc j c hj).2)
        exact ⟨v, fin hv k1, k2⟩
      · rename_i e fs off hx
        simp only [Option.map_eq_some_iff, Prod.mk.injEq] at h
        obtain ⟨⟨s', is'⟩, h1, ⟨rfl, rfl⟩, rfl⟩ := h
        obtain ⟨h2, b, l, uu, hd, hh, hv, hc⟩ := getV_ok ht hpc hx
        have hd' : den C.ρ (.un .agg e) = .agg l := by simp only [den, U.den, hd, D.toL]
        obtain ⟨v, k1, k2⟩ := elemLoad_ok (P := P) (C := C) (w := w) (G := G) (b := b) (o' := 0) (uu := uu) h1 hsome (by simpa [E.lt] using h2) (by rw [hd']; exact has_agg.2 ⟨l, rfl, hh⟩)
          (by rw [hd']; simp only [D.cells]; intro j c hj; rw [Nat.zero_add]; exact (hc j c hj).2)
        rw [Nat.zero_add] at k1
        exact ⟨v, fin hv k1, k2⟩
      · rename_i e fs hx
        simp only [Option.map_eq_some_iff, Prod.mk.injEq] at h
        obtain ⟨⟨s', is'⟩, h1, ⟨rfl, rfl⟩, rfl⟩ := h
        obtain ⟨h2, hrep, hhas⟩ := getV_ok ht hpc hx
        obtain ⟨l, hd, hh⟩ := has_box.1 hhas
        obtain ⟨b, cs, hv, hlen, hS, hc, hr⟩ := (hd ▸ hrep).inv_ptr
        have hd' : den C.ρ (.un .agg e) = .agg l := by simp only [den, U.den, hd, D.toL]
        obtain ⟨v, k1, k2⟩ := elemLoad_ok (P := P) (C := C) (w := w) (G := G) (b := b) (o' := 0) (uu := fun j => cs.getD j undef) h1 hsome (by simpa [E.lt] using h2) (by rw [hd']; exact has_agg.2 ⟨l, rfl, hh⟩)
          (by
            rw [hd']; simp only [D.cells]; intro j c hj; rw [Nat.zero_add]
            have hjl : j < cs.length := by rw [hlen]; exact (List.getElem?_eq_some_iff.1 hj).1
            have e1 : cs[j]? = some (cs.getD j undef) := by simp [List.getD, hjl]
            exact ⟨hc j _ e1, hr j _ c e1 hj⟩)
        exact ⟨v, fin hv k1, k2⟩
      · cases h
  · cases h

end
end Go.Eng
