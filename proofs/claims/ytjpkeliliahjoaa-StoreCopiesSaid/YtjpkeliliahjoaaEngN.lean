/-
  Slice literals; every operation together.
-/
import Derived.Test.YtjpkeliliahjoaaEngMy
namespace Go.Eng
open Go Go.RowKit

theorem rep_flat_get {α : Type} (l : List α) : ∀ (n i j : Nat), i < n → j < l.length → (List.replicate n l).flatten[i * l.length + j]? = l[j]?
  | 0, i, j, h, _ => by omega
  | n + 1, 0, j, _, hj => by simp only [List.replicate_succ, List.flatten_cons, Nat.zero_mul, Nat.zero_add]; rw [List.getElem?_append_left hj]
  | n + 1, i + 1, j, h, hj => by
    simp only [List.replicate_succ, List.flatten_cons]
    rw [List.getElem?_append_right (by rw [Nat.add_mul]; omega)]
    have := rep_flat_get l n i j (by omega) hj
    rw [← this]
    congr 1
    rw [Nat.add_mul]; omega

theorem elemsE_len (agg : Bool) (size : Nat) : ∀ (n : Nat) (es : List E), (elemsE agg size es n).length = n
  | 0, _ => rfl
  | n + 1, es => by simp [elemsE, elemsE_len agg size n]
theorem elemsE_get (agg : Bool) (size : Nat) : ∀ (n i : Nat) (es : List E), i < n → (elemsE agg size es n)[i]? = some (if agg then .un .agg (.ofL ((es.drop (i * size)).take size)) else (es.drop (i * size)).headD .nil)
  | 0, i, _, h => by omega
  | n + 1, 0, es, _ => by simp [elemsE]
  | n + 1, i + 1, es, h => by
    simp only [elemsE, List.getElem?_cons_succ]
    rw [elemsE_get agg size n i _ (by omega)]
    rw [List.drop_drop, Nat.add_mul, Nat.one_mul, Nat.add_comm size]

theorem run_buildSlice0 {P : Program} (w : World) (t e : TypeId) (len : Nat) (parts : Array (Nat × Value)) (cells : Array Value) (ie : TypeInfo) (z : Value)
    (hu : P.underlying t = some (.slice e)) (hie : P.info? e = some ie) (hz : ie.zero = some z) (hsmall : ¬ len * ie.size > 2 ^ 24)
    (h : Instr.fill (fun i => some (i * ie.size, ie.size)) ((Array.range (len * ie.size)).map (z.cells[· % z.cells.size]!)) parts.toList = some cells) :
    (Instr.buildSlice t len parts).run P w = .ok (.slice (some ⟨w.heap.size, 0, none⟩) len len) (w.alloc (.cells cells e)) := by
  by_cases hpos : len * ie.size = 0
  · have e0 : ∀ f : Nat → Value, (Array.range (len * ie.size)).map f = #[] := fun f => by rw [hpos]; simp
    rw [e0] at h
    have e3 : ∀ f : Nat → Value, (Array.range 0).map f = #[] := fun f => by simp
    simp [Instr.buildSlice, run_underlying hu, sizeOf, typeInfo, hie, newRow, hpos]
    rw [e3, h]
    simp
  · exact run_buildSlice w t e len parts cells ie z hu hie hz hsmall hpos h

section
variable {P : Program} {C : Cx} {w w0 : World} {S0 : Base} {G : Gh} {σ : St} {a : Act} {o : Oper} {pc : Cond} {s : SV} {is : List Item} {Φ : Nat → List D → D} {Pre : Nat → List D → Prop} {n p : Nat} {cs : Tbl}

/-- A slice literal's run, and what it made. -/
theorem run_opLit {e : E} {T : TypeId} {t : Ty} {len : Nat} (ht : SimT C w G σ.tm a) (hpc : condB C.ρ pc = true) (h : opLit P σ pc o = some (e, T, t, len)) :
    ∃ (xs : List Value) (l : List D), (execOp a.eval o).run P w = .ok (.value (.slice (some ⟨w.heap.size, 0, none⟩) len len)) (w.alloc (.cells xs.toArray T)) ∧ e.lt C.N = true ∧ den C.ρ e = .list l ∧ l.length = len ∧ lenOk t len ∧
      0 < t.cells.length ∧ xs.length = len * t.cells.length ∧ (∀ d ∈ l, Has t d) ∧
      (∀ (i : Nat) d (j : Nat) v c, l[i]? = some d → d.cells[j]? = some c → xs[i * t.cells.length + j]? = some v → Rep w G.S v c) ∧ ∀ cl, litSCs P σ pc o = some cl → RSCs C w G cl xs := by
  unfold opLit at h
  split at h
  · rename_i tt len' parts ho
    split at h
    · rename_i el hu
      split at h
      · rename_i ie u ts ps hie hty hfl hps
        split at h
        · rename_i zs hzs
          obtain ⟨z, hz, hzs⟩ : ∃ z, ie.zero = some z ∧ zeroSCs ts z.cells.toList = some zs := by
            cases hq : ie.zero with
            | none => simp [hq] at hzs
            | some z => exact ⟨z, rfl, by simpa [hq] using hzs⟩
          split at h
          · rename_i hc1
            obtain ⟨hzl, hul, hpos, hsmall, hbyt⟩ := hc1
            split at h
            · rename_i csl hfill
              split at h
              · rename_i es us hds
                split at h
                · rename_i hus
                  have hz0 := zeroSCs_ok (C := C) (w := w) (G := G) hzs
                  have hzsz : z.cells.size = zs.length := by have := hz0.1; simpa using this
                  have hinit : RSCs C w G ((List.range (len' * ie.size)).map fun j => zs.getD (j % zs.length) (.nils .nil)) ((List.range (len' * ie.size)).map fun j => z.cells[j % z.cells.size]!) := by
                    refine ⟨by simp, fun i c v hc hv => ?_⟩
                    have hi : i < len' * ie.size := by have := (List.getElem?_eq_some_iff.1 hc).1; simpa using this
                    simp only [List.getElem?_map, List.getElem?_range hi, Option.map_some, Option.some.injEq] at hc hv
                    have hm : i % zs.length < zs.length := Nat.mod_lt _ (by omega)
                    subst hc; subst hv
                    rw [hzsz]
                    have e1 : zs.getD (i % zs.length) (.nils .nil) = zs[i % zs.length] := by simp [List.getD, hm]
                    have hm' : i % zs.length < z.cells.size := by omega
                    have e2 : z.cells[i % zs.length]! = z.cells.toList[i % zs.length]'(by simpa using hm') := by simp [getElem!_pos, hm']
                    rw [e1, e2]
                    exact hz0.2 _ _ _ (List.getElem?_eq_getElem hm) (List.getElem?_eq_getElem _)
                  obtain ⟨k1, k2⟩ := partsSC_ok ht hpc _ _ _ hps
                  obtain ⟨xs, h1, h2⟩ := fillSC_ok _ _ _ _ _ _ hfill hinit k1 k2
                  obtain ⟨m1, m2, m3, m4, m5⟩ := asDatas_ok hds h2
                  have hlit : ∀ cl, litSCs P σ pc o = some cl → RSCs C w G cl xs := by
                    intro cl hcl
                    have hb : (ie.zero.bind fun z => zeroSCs ts z.cells.toList) = some zs := by rw [hz]; exact hzs
                    unfold litSCs at hcl
                    simp only [ho, hu, hie, hfl, hps, hb] at hcl
                    rw [hfill] at hcl
                    injection hcl with hcl
                    rw [← hcl]; exact h2
                  have hxs : xs.length = len' * ie.size := by
                    rw [← m3, hus.1]; simp [hul]
                  have hrun : ∀ {T}, el = T → (execOp a.eval o).run P w = .ok (.value (.slice (some ⟨w.heap.size, 0, none⟩) len' len')) (w.alloc (.cells xs.toArray T)) := by
                    rintro T rfl
                    have := run_buildSlice0 (P := P) w tt el len' (parts.map fun (i, x) => (i, a.eval x)) xs.toArray ie z hu hie hz (by rw [show (2 : Nat) ^ 24 = 16777216 from rfl]; omega)
                      (by
                        rw [Array.toList_map]
                        have e1 : (Array.range (len' * ie.size)).map (fun x => z.cells[x % z.cells.size]!) = ((List.range (len' * ie.size)).map fun j => z.cells[j % z.cells.size]!).toArray := by apply Array.ext'; simp
                        rw [e1]; exact h1)
                    unfold execOp; simp only [ho, Sem.run_bind]
                    rw [this]; rfl
                  have hmax : len' ≤ maxLen := by
                    have : len' ≤ len' * ie.size := Nat.le_mul_of_pos_right _ hpos
                    have h9 : (16777216 : Nat) ≤ maxLen := by decide
                    omega
                  have hesl : es.length = len' * ie.size := by rw [m2, hxs]
                  have hltes : ∀ e ∈ es, e.lt C.N = true := (ofL_lt es).1 m1
                  -- the types of the cells, one by one
                  have hty2 : ∀ (i j : Nat) (ty : Ty) (x : E), i < len' → j < ie.size → u.cells[j]? = some ty → es[i * ie.size + j]? = some x → Has ty (den C.ρ x) := by
                    intro i j ty x hi hj hty hx
                    have hsl := hasL_get m5 (i * ie.size + j) ty (by rw [Ty.toL_ofL, hus.1, ← hul, rep_flat_get _ _ _ _ hi (by omega)]; exact hty)
                    obtain ⟨d, hd, hhd⟩ := hsl
                    simp only [List.getElem?_map, hx, Option.map_some, Option.some.injEq] at hd
                    subst hd; exact hhd
                  have lt_pos : ∀ {i j : Nat}, i < len' → j < ie.size → i * ie.size + j < len' * ie.size := by
                    intro i j hi hj
                    have : (i + 1) * ie.size ≤ len' * ie.size := Nat.mul_le_mul_right _ hi
                    rw [Nat.add_mul] at this; omega
                  split at h
                  · rename_i fs hagg
                    injection h with h; simp only [Prod.mk.injEq] at h; obtain ⟨rfl, rfl, rfl, rfl⟩ := h
                    have hcl : (Ty.agg (.ofL fs.toL)).cells = fs.toL := by simp [Ty.cells, Ty.toL_ofL]
                    have hfsl : fs.toL.length = ie.size := hul
                    have elem : ∀ i, i < len' → den C.ρ (.un .agg (.ofL ((es.drop (i * ie.size)).take ie.size))) = .agg (((es.drop (i * ie.size)).take ie.size).map (den C.ρ)) := by
                      intro i _; simp only [den, den_ofL, U.den, D.toL]
                    refine ⟨xs, _, hrun rfl, ?_, den_ofL _ _, by simp [elemsE_len], ⟨hmax, by rw [Ty.bytes_ofL]; exact hbyt⟩, by rw [hcl]; omega, by rw [hcl, hfsl]; exact hxs, ?_, ?_, hlit⟩
                    · rw [ofL_lt]
                      intro e he
                      obtain ⟨i, hi⟩ := List.getElem?_of_mem he
                      have hil : i < len' := by have := (List.getElem?_eq_some_iff.1 hi).1; rwa [elemsE_len] at this
                      rw [elemsE_get _ _ _ _ _ hil] at hi
                      simp only [if_true, Option.some.injEq] at hi
                      subst hi
                      simp only [E.lt]
                      rw [ofL_lt]
                      exact fun e he => hltes e (List.mem_of_mem_drop (List.mem_of_mem_take he))
                    · intro d hd
                      obtain ⟨i, hi⟩ := List.getElem?_of_mem hd
                      simp only [List.getElem?_map, Option.map_eq_some_iff] at hi
                      obtain ⟨x, hx, rfl⟩ := hi
                      have hil : i < len' := by have := (List.getElem?_eq_some_iff.1 hx).1; rwa [elemsE_len] at this
                      rw [elemsE_get _ _ _ _ _ hil] at hx
                      simp only [if_true, Option.some.injEq] at hx
                      subst hx
                      rw [elem i hil]
                      have hbound : (i + 1) * ie.size ≤ len' * ie.size := Nat.mul_le_mul_right _ hil
                      rw [Nat.add_mul] at hbound
                      refine has_agg.2 ⟨_, rfl, hasL_mk (by simp [hesl]; omega) fun j ty x hj hx => ?_⟩
                      have hjs : j < ie.size := by rw [← hfsl]; exact (List.getElem?_eq_some_iff.1 hj).1
                      simp only [List.getElem?_map, Option.map_eq_some_iff, List.getElem?_take, if_pos hjs, List.getElem?_drop] at hx
                      obtain ⟨y, hy, rfl⟩ := hx
                      exact hty2 i j ty y hil hjs hj hy
                    · intro i d j v c hd hc hv
                      simp only [List.getElem?_map, Option.map_eq_some_iff] at hd
                      obtain ⟨x, hx, rfl⟩ := hd
                      have hil : i < len' := by have := (List.getElem?_eq_some_iff.1 hx).1; rwa [elemsE_len] at this
                      rw [elemsE_get _ _ _ _ _ hil] at hx
                      simp only [if_true, Option.some.injEq] at hx
                      subst hx
                      rw [elem i hil] at hc
                      simp only [D.cells, List.getElem?_map, Option.map_eq_some_iff, List.getElem?_take] at hc
                      obtain ⟨y, hy, rfl⟩ := hc
                      split at hy
                      · rw [List.getElem?_drop] at hy
                        rw [hcl, hfsl] at hv
                        exact m4 _ v y hv hy
                      · cases hy
                  · rename_i u _ _ hagg
                    split at h
                    · rename_i hone
                      injection h with h; simp only [Prod.mk.injEq] at h; obtain ⟨rfl, rfl, rfl, rfl⟩ := h
                      have hsc : u.scalar = true := by
                        rcases hus.2 with h | h
                        · rw [hagg] at h; cases h
                        · exact h
                      have huc : u.cells = [u] := by cases u <;> first | rfl | cases hsc
                      have elem : ∀ i x, i < len' → (elemsE false 1 es len')[i]? = some x → es[i]? = some x := by
                        intro i x hi hx
                        rw [elemsE_get _ _ _ _ _ hi] at hx
                        simp only [Bool.false_eq_true, if_false, Option.some.injEq, Nat.mul_one] at hx
                        have hil : i < es.length := by rw [hesl, hone]; omega
                        rw [← hx, List.getElem?_eq_getElem hil, List.drop_eq_getElem_cons hil]; rfl
                      have cell1 : ∀ d, Has u d → d.cells = [d] := by
                        intro d hd
                        have := (has_cells hd)
                        rw [huc] at this
                        cases d <;> first | rfl | (rename_i l; exfalso; cases u <;> simp [Ty.scalar] at hsc <;> simp [has_int, has_bool, has_str, has_list, has_box, has_ptr, has_fn] at hd)
                      have hasx : ∀ i x, i < len' → es[i]? = some x → Has u (den C.ρ x) := by
                        intro i x hi hx
                        exact hty2 i 0 u x hi (by omega) (by rw [huc]; rfl) (by rw [hone, Nat.mul_one, Nat.add_zero]; exact hx)
                      refine ⟨xs, _, hrun rfl, ?_, den_ofL _ _, by simp [elemsE_len], ⟨hmax, hbyt⟩, by rw [huc]; simp, by rw [huc]; simpa [hone] using hxs, ?_, ?_, hlit⟩
                      · rw [ofL_lt]
                        intro e he
                        obtain ⟨i, hi⟩ := List.getElem?_of_mem he
                        have hil : i < len' := by have := (List.getElem?_eq_some_iff.1 hi).1; rwa [elemsE_len] at this
                        exact hltes e (List.mem_of_getElem? (elem i e hil hi))
                      · intro d hd
                        obtain ⟨i, hi⟩ := List.getElem?_of_mem hd
                        simp only [List.getElem?_map, Option.map_eq_some_iff] at hi
                        obtain ⟨x, hx, rfl⟩ := hi
                        have hil : i < len' := by have := (List.getElem?_eq_some_iff.1 hx).1; rwa [elemsE_len] at this
                        exact hasx i x hil (elem i x hil hx)
                      · intro i d j v c hd hc hv
                        simp only [List.getElem?_map, Option.map_eq_some_iff] at hd
                        obtain ⟨x, hx, rfl⟩ := hd
                        have hil : i < len' := by have := (List.getElem?_eq_some_iff.1 hx).1; rwa [elemsE_len] at this
                        have hex := elem i x hil hx
                        rw [cell1 _ (hasx i x hil hex)] at hc
                        cases j with
                        | succ j => simp at hc
                        | zero =>
                          simp at hc; subst hc
                          rw [huc] at hv
                          simp only [List.length_cons, List.length_nil, Nat.zero_add, Nat.mul_one, Nat.add_zero] at hv
                          exact m4 i v x hv hex
                    · cases h
                  · cases h
                · cases h
              · cases h
            · cases h
          · cases h
        · cases h
      · cases h
    · cases h
  · cases h

theorem stepped_lit {ops : Array Oper} {e : E} {T : TypeId} {t : Ty} {len : Nat} (hs : Sim n w0 S0 C G σ a w) (hp : ¬ C.M p) (hg : guardOf ops σ o = some pc) (h : opLit P σ pc o = some (e, T, t, len)) (own : Bool) (hown : own = true → pc = [])
    (hlt : e.lt C.N = true) (hdst : ∀ d, o.dst = some d → d < n) (hfr : S0.fr → frOk P cs σ pc o = true) (hnw : ¬ S0.wz) :
    Stepped1 P n w0 S0 C ((⟨o.dst, (pc, if own then .one (.own (p, 0) e t) else .one (.dat e (.list t))), [], if own then [((p, 0), some (e, T, t))] else [], [], []⟩ : Eff).app σ) p ops a w o := by
  intro K Q hK
  obtain ⟨hw, hc⟩ := guardOf_ok hs.t hg
  have hlt' : (if own then SV.one (.own (p, 0) e t) else SV.one (.dat e (.list t))).lt C.N = true := by cases own <;> simpa [SV.lt, SC.lt] using hlt
  rw [hw]
  cases hpc : condB C.ρ pc with
  | false =>
    simp only [Bool.false_eq_true, if_false]
    have ho : own = false := by
      cases own with
      | false => rfl
      | true => have := hown rfl; subst this; simp [condB] at hpc
    subst ho
    exact hK _ _ _ (hs.step (o := o) (e := ⟨o.dst, (pc, .one (.dat e (.list t))), [], [], [], []⟩) (Later.addM C w G p) ((hs.m.addM p).congr (updL_nil _) (updL_nil _)) rfl (by simpa [SV.lt, SC.lt] using hlt) hc
      (by intro _; simp only [hpc, Bool.false_eq_true, if_false]) hdst)
  | true =>
    simp only [if_true]
    obtain ⟨xs, l, hrun, helt, hden, hll, hmax, hpos, hxl, hall, hr, hlit⟩ := run_opLit hs.t hpc h
    unfold Oper.wp
    rw [hrun]
    let G' : Gh := { S := fun b o => G.S b o ∨ (b = w.heap.size ∧ o < xs.length), β := G.β, τ := fun g => if g.1 = p then .slice (some ⟨w.heap.size, 0, none⟩) len len else G.τ g }
    have hkeep : ∀ b o, G.S b o → (w.alloc (.cells xs.toArray T)).cell? ⟨b, o, none⟩ = w.cell? ⟨b, o, none⟩ := fun b o hs' => World.cell?_alloc_lt w _ _ (hs.m.footlt b o hs')
    have hhas : Has (.list t) (den C.ρ e) := by rw [hden]; exact has_list.2 ⟨l, rfl, by rw [hll]; exact hmax, hall⟩
    have hok : OwnOk (C.add p) (w.alloc (.cells xs.toArray T)) w.heap.size G' (p, 0) e T t := by
      refine ⟨.inr rfl, helt, hhas, xs, l, hden, ?_, ?_, ?_⟩
      · show (w.alloc _).ownsRow _ _ _ (if p = p then _ else _) _ _
        rw [if_pos rfl, hll]
        exact ⟨hxl, .inr ⟨w.heap.size, len, xs.toArray, rfl, Nat.le_refl _, heap_alloc_new w _, Nat.le_refl _, hmax.1, by simpa using hxl, by simp [← hxl]⟩⟩
      · intro b hb o
        have hb' : b = w.heap.size := by simp [G', Value.ownBlock] at hb; exact hb.symm
        constructor
        · rintro (h | ⟨_, h⟩)
          · have := hs.m.footlt b o h; omega
          · exact ⟨rfl, h⟩
        · intro ho; exact .inr ⟨hb', ho.2⟩
      · intro i d j v c h1 h2 h3
        exact (hr i d j v c h1 h2 h3).keep (fun _ _ h => .inl h) hkeep
    obtain ⟨hlat, hm⟩ := hs.m.called hp (S' := G'.S) (τ' := fun _ => .slice (some ⟨w.heap.size, 0, none⟩) len len) ((Below.refl _ _).alloc (Nat.le_refl _) _) (fun _ _ h => .inl h)
      (by
        rintro b o (h | ⟨rfl, _⟩)
        · have := hs.m.footlt b o h; simp; omega
        · simp)
      (by
        rintro b o (h | ⟨rfl, _⟩)
        · exact .inl h
        · exact .inr (Nat.le_refl _))
      (updL σ.live (if own then [((p, 0), some (e, T, t))] else [])) G' rfl
      (by
        intro g x hx
        cases own with
        | false => simp only [Bool.false_eq_true, if_false, updL_nil] at hx; exact .inl ⟨not_M_live hs.m hp hx, hx⟩
        | true =>
          simp only [if_true, updL, lk] at hx
          by_cases he : g = (p, 0)
          · rw [if_pos he] at hx; simp only [Option.some.injEq] at hx; subst hx; subst he; exact .inr ⟨rfl, hok⟩
          · rw [if_neg he] at hx; exact .inl ⟨not_M_live hs.m hp hx, hx⟩)
      (by
        intro j k x y b hx hy _ _
        have key : ∀ j x, updL σ.live (if own then [((p, 0), some (e, T, t))] else []) (p, j) = some x → j = 0 := by
          intro j x hx
          cases own with
          | false => simp only [Bool.false_eq_true, if_false, updL_nil] at hx; exact absurd rfl (not_M_live hs.m hp hx)
          | true =>
            simp only [if_true, updL, lk] at hx
            by_cases he : (p, j) = (p, 0)
            · simpa using he
            · rw [if_neg he] at hx; exact absurd rfl (not_M_live hs.m hp hx)
        rw [key j x hx, key k y hy])
      (fun hff _ => by
        have h1 := hfr hff
        obtain ⟨cl, hcl, hclf⟩ : ∃ cl, litSCs P σ pc o = some cl ∧ (cl.all freshSC) = true := by
          unfold opLit at h
          split at h
          · rename_i ho
            unfold frOk at h1
            simp only [ho] at h1
            cases hl : litSCs P σ pc o with
            | none => rw [hl] at h1; cases h1
            | some cl => rw [hl] at h1; exact ⟨cl, rfl, h1⟩
          · cases h
        have hrc := hlit cl hcl
        have hvals : ∀ u ∈ xs, ValIn (FrB (NewB w0 S0) w G.S) u := by
          intro u hu
          obtain ⟨i, hi⟩ := List.getElem?_of_mem hu
          have hil : i < cl.length := by rw [← hrc.1]; exact (List.getElem?_eq_some_iff.1 hi).1
          exact freshSC_val (C := C) (List.all_eq_true.1 hclf _ (List.getElem_mem hil)) (hs.m.fresh hff) (hrc.2 i _ u (List.getElem?_eq_getElem hil) hi)
        intro a0 n0 cap0 hv0
        by_cases hlen : len = 0
        · exact .inl hlen
        · have hxpos : 0 < xs.length := by rw [hxl]; exact Nat.mul_pos (by omega) hpos
          refine .inr ⟨w.heap.size, 0, rfl, fun b => FrB (NewB w0 S0) w G.S b ∨ b = w.heap.size, ?_, .inr rfl⟩
          rintro b (hb | rfl)
          · obtain ⟨h3, ⟨o1, h4⟩, ⟨cur0, T0, h7⟩, h5⟩ := FrB.set _ _ _ b hb
            refine ⟨h3, ⟨o1, .inl h4⟩, ⟨cur0, T0, (Below.heap_alloc w _ _ (hs.m.footlt _ _ h4)).trans h7⟩, fun o2 u hs2 hu => ?_⟩
            rcases hs2 with hs2 | ⟨rfl, _⟩
            · exact (h5 o2 u hs2 (by rw [← hkeep b o2 hs2]; exact hu)).mono fun _ h => .inl h
            · have := hs.m.footlt _ _ h4; omega
          · refine ⟨.inl hs.m.base_le, ⟨0, .inr ⟨rfl, hxpos⟩⟩, ⟨_, _, heap_alloc_new w _⟩, fun o2 u hs2 hu => ?_⟩
            rcases hs2 with hs2 | ⟨_, ho2⟩
            · have := hs.m.footlt _ _ hs2; omega
            · have h6 : (w.alloc (.cells xs.toArray T)).heap[w.heap.size]? = some (.cells xs.toArray T (0, 0)) := heap_alloc_new w _
              rw [cell_of_row _ _ o2 _ T (0, 0) h6] at hu
              simp only [List.getElem?_toArray] at hu
              exact (hvals u (List.mem_of_getElem? hu)).mono fun _ h => .inl h) hnw
    refine hK _ _ _ (hs.step (o := o) (e := ⟨o.dst, (pc, if own then .one (.own (p, 0) e t) else .one (.dat e (.list t))), [], if own then [((p, 0), some (e, T, t))] else [], [], []⟩) hlat (hm.congr (updL_nil _) rfl) rfl hlt' hc ?_ hdst)
    intro _
    simp only [hpc, if_true]
    have hrep := hok.rep hpos
    have hτ : G'.τ (p, 0) = .slice (some ⟨w.heap.size, 0, none⟩) len len := if_pos rfl
    rw [hτ] at hrep
    cases own with
    | true => exact ⟨.inr rfl, helt, hrep, hhas, hτ.symm⟩
    | false => exact ⟨helt, hrep, hhas⟩

theorem stepped_xLit {ops : Array Oper} {e : Eff} (hs : Sim n w0 S0 C G σ a w) (hp : ¬ C.M p) (hg : guardOf ops σ o = some []) (h : xLit P σ p o = some e) (hdst : ∀ d, o.dst = some d → d < n) (hnf : ¬ S0.fr) (hnw : ¬ S0.wz) :
    Stepped1 P n w0 S0 C (e.app σ) p ops a w o := by
  unfold xLit at h
  split at h
  · rename_i ee T t len hl
    injection h with h; subst h
    intro K Q hK
    obtain ⟨hw, hc⟩ := guardOf_ok hs.t hg
    rw [hw, if_pos (show condB C.ρ [] = true from rfl)]
    obtain ⟨xs, l, hrun, helt, hden, hll, hmax, hpos, hxl, hall, hr, _⟩ := run_opLit hs.t (pc := []) rfl hl
    unfold Oper.wp
    rw [hrun]
    let G' : Gh := { S := G.S, β := G.β, τ := fun g => if g.1 = p then .slice (some ⟨w.heap.size, 0, none⟩) len len else G.τ g }
    have hkeep : ∀ b o, G.S b o → (w.alloc (.cells xs.toArray T)).cell? ⟨b, o, none⟩ = w.cell? ⟨b, o, none⟩ := fun b o hs' => World.cell?_alloc_lt w _ _ (hs.m.footlt b o hs')
    have hhas : Has (.list t) (den C.ρ ee) := by rw [hden]; exact has_list.2 ⟨l, rfl, by rw [hll]; exact hmax, hall⟩
    have hok : OwnOk (C.add p) (w.alloc (.cells xs.toArray T)) w.heap.size G' (p, 1000) ee T t := by
      refine ⟨.inr rfl, helt, hhas, xs, l, hden, ?_, ?_, ?_⟩
      · show (w.alloc _).ownsRow _ _ _ (if p = p then _ else _) _ _
        rw [if_pos rfl, hll]
        exact ⟨hxl, .inr ⟨w.heap.size, len, xs.toArray, rfl, Nat.le_refl _, heap_alloc_new w _, Nat.le_refl _, hmax.1, by simpa using hxl, by simp [← hxl]⟩⟩
      · intro b hb o
        have hb' : b = w.heap.size := by simp [G', Value.ownBlock] at hb; exact hb.symm
        constructor
        · intro h
          have := hs.m.footlt b o h; omega
        · intro ho; exact Bool.noConfusion ho.1
      · intro i d j v c h1 h2 h3
        exact (hr i d j v c h1 h2 h3).keep (fun _ _ h => h) hkeep
    have hkey : ∀ j x, updL σ.live [((p, 1000), some (ee, T, t))] (p, j) = some x → j = 1000 := by
      intro j x hx
      simp only [updL, lk] at hx
      by_cases he : (p, j) = (p, 1000)
      · simpa using he
      · rw [if_neg he] at hx; exact absurd rfl (not_M_live hs.m hp hx)
    obtain ⟨hlat, hm⟩ := hs.m.called hp (S' := G'.S) (τ' := fun _ => .slice (some ⟨w.heap.size, 0, none⟩) len len) ((Below.refl _ _).alloc (Nat.le_refl _) _) (fun _ _ h => h)
      (by
        intro b o h
        have := hs.m.footlt b o h; simp; omega)
      (fun b o h => .inl h)
      (updL σ.live [((p, 1000), some (ee, T, t))]) G' rfl
      (by
        intro g x hx
        simp only [updL, lk] at hx
        by_cases he : g = (p, 1000)
        · rw [if_pos he] at hx; simp only [Option.some.injEq] at hx; subst hx; subst he; exact .inr ⟨rfl, hok⟩
        · rw [if_neg he] at hx; exact .inl ⟨not_M_live hs.m hp hx, hx⟩)
      (by
        intro j k x y b hx hy _ _
        rw [hkey j x hx, hkey k y hy])
      (fun hff => absurd hff hnf) hnw
    refine hK _ _ _ (hs.step (o := o) (e := ⟨o.dst, ([], .one (.xo (p, 1000) t)), [], [((p, 1000), some (ee, T, t))], [], []⟩) hlat (hm.congr (updL_nil _) rfl) rfl rfl hc ?_ hdst)
    intro _
    simp only [condB, List.all_nil, if_true]
    have hτ : G'.τ (p, 1000) = .slice (some ⟨w.heap.size, 0, none⟩) len len := if_pos rfl
    exact ⟨.inr rfl, hτ.symm, _, _, _, rfl⟩
  · cases h

/-- One operation. -/
theorem effOp0_ok {ops : Array Oper} {e : Eff} (hs : Sim n w0 S0 C G σ a w) (he : effOp0 P cs ops σ p o = some e) (hp : ¬ C.M p) (hpN : p < C.N) (hcon : ∀ k sig, lk cs.l k = some sig → PureFn P k sig (Pre k) (Φ k))
    (hlt : e.ent.2.lt C.N = true) (hit : ∀ it ∈ e.items, ItemOk C Φ Pre it) (hdst : ∀ d, o.dst = some d → d < n) (hfr : S0.fr → ∀ pc, guardOf ops σ o = some pc → frOk P cs σ pc o = true) (hwz : S0.wz → opKind o.op < 3) : Stepped1 P n w0 S0 C (e.app σ) p ops a w o := by
  unfold effOp0 at he
  split at he
  · cases he
  · rename_i pc hg
    split at he
    · split at he
      · rename_i l hl
        split at he
        · rename_i hc
          obtain ⟨rfl, hsc⟩ := hc
          injection he with he; subst he
          exact stepped_new hs hp hg hl hsc hdst
        · cases he
      · cases he
    · split at he
      · rename_i id l hl
        split at he
        · rename_i hc
          obtain ⟨rfl, hsc, hd⟩ := hc
          injection he with he; subst he
          exact stepped_store hs hg hl hsc hd
        · cases he
      · cases he
    · split at he
      · rename_i e' t fz hf
        injection he with he; subst he
        exact stepped_fn hs hg hf (by simpa [SV.lt, SC.lt] using hlt) hdst
      · cases he
    · rename_i hkd
      have hnw : ¬ S0.wz := fun hw => by have := hwz hw; omega
      split at he
      · rename_i k e' sig hc
        injection he with he; subst he
        exact stepped_call hs hp hpN hg hc hcon (hit _ (by simp)) hlt hdst _ (fun hff => hfr hff _ hg) hnw
      · split at he
        · rename_i x hx
          split at he
          · rename_i hpc
            subst hpc
            injection he with he; subst he
            refine stepped_ocall hs hp hpN hg rfl hx hcon (hit _ (by simp [OCall.eff])) hlt hdst (fun hff => ?_) hnw
            have h1 := hfr hff _ hg
            unfold opOCall at hx
            split at hx
            · rename_i f args argTypes ho
              split at hx
              · rename_i fe k' hf
                split at hx
                · rename_i sig hsig
                  split at hx
                  · rename_i ob hob
                    unfold frOk at h1
                    have h2 : sigOf cs o.dst k' = some sig := by
                      unfold sigOf
                      rw [hsig]
                      simp [hob]
                    simp only [ho, hf, h2, hob, Bool.and_eq_true] at h1
                    simp at h1
                  · cases hx
                · cases hx
              · cases hx
            · cases hx
          · cases he
        · cases he
    · rename_i hkd
      have hnw : ¬ S0.wz := fun hw => by have := hwz hw; omega
      split at he
      · rename_i e1 e2 T t b ha
        split at he
        · rename_i hpc
          subst hpc
          injection he with he; subst he
          exact stepped_appclip hs hp hg ha (hit _ (by simp)) (hit _ (by simp)) hdst _ (fun hff => hfr hff _ hg) hnw
        · cases he
      · split at he
        · rename_i g e1 e2 T t b ha
          split at he
          · rename_i hpc
            subst hpc
            injection he with he; subst he
            exact stepped_append hs hp hg ha (hit _ (by simp)) hdst _ (fun hff => hfr hff _ hg) hnw
          · cases he
        · cases he
    · rename_i hkd
      have hnw : ¬ S0.wz := fun hw => by have := hwz hw; omega
      split at he
      · rename_i e' T t len hl
        split at he
        · rename_i hpe
          injection he with he; subst he
          have := stepped_lit (p := p) hs hp hg hl true (fun _ => by simpa using hpe) (by simpa [SV.lt, SC.lt] using hlt) hdst (fun hff => hfr hff _ hg) hnw
          simpa using this
        · injection he with he; subst he
          have := stepped_lit (p := p) hs hp hg hl false (fun h => by cases h) (by simpa [SV.lt, SC.lt] using hlt) hdst (fun hff => hfr hff _ hg) hnw
          simpa using this
      · cases he
    · split at he
      · rename_i s is rd hpl
        injection he with he; subst he
        exact stepped_plain hs hg hpl hlt hit hdst
      · cases he

theorem effOp_ok {ops : Array Oper} {e : Eff} (hs : Sim n w0 S0 C G σ a w) (he : effOp P cs ops σ p o = some e) (hp : ¬ C.M p) (hpN : p < C.N) (hcon : ∀ k sig, lk cs.l k = some sig → PureFn P k sig (Pre k) (Φ k))
    (hlt : e.ent.2.lt C.N = true) (hit : ∀ it ∈ e.items, ItemOk C Φ Pre it) (hdst : ∀ d, o.dst = some d → d < n) (hnf : ¬ S0.fr) (hnw : ¬ S0.wz) : Stepped1 P n w0 S0 C (e.app σ) p ops a w o := by
  unfold effOp at he
  split at he
  · rename_i k hgd hk
    have hg : guardOf ops σ o = some [] := by unfold guardOf; rw [hgd]
    unfold effX at he
    split at he
    · exact stepped_xLoad hs hgd he hlt hdst
    · exact stepped_xStore hs hgd he
    · exact stepped_xLen hs hgd he hlt hdst
    · exact stepped_xIndex hs hgd he hit hlt hdst
    · unfold xAppend at he
      split at he
      · rename_i g e1 e2 T t b ha
        injection he with he; subst he
        exact stepped_appX hs hp hg ha (hit _ (by simp)) hdst _ hnf hnw
      · cases he
    · exact stepped_xLit hs hp hg he hdst hnf hnw
    · exact stepped_xCall hs hp hpN hg he hcon hit hlt hdst hnf hnw
  · split at he
    · rename_i pc hg
      split at he
      · exact stepped_xCallG hs hp hpN hg he hcon hit hlt hdst hnf hnw
      · exact effOp0_ok hs he hp hpN hcon hlt hit hdst (fun hff => absurd hff hnf) (fun hw => absurd hw hnw)
    · cases he
  · exact effOp0_ok hs he hp hpN hcon hlt hit hdst (fun hff => absurd hff hnf) (fun hw => absurd hw hnw)

/-- The signature of the function that is called. -/
def opSigOf (P : Program) (cs : Tbl) (σ : St) (o : Oper) : Option Sig :=
  match o.op with
  | .call { callee := .value f, .. } =>
    match getV P σ [] f 0 with
    | some (.one (.dat _ (.fn k .nil))) => lk cs.l k
    | _ => none
  | _ => none
/-- What an operation does, where it is known whether a guarded call that is handed objects is run. -/
def effOpD (d : Option Bool) (P : Program) (cs : Tbl) (ops : Array Oper) (σ : St) (p : Nat) (o : Oper) : Option Eff :=
  match d with
  | none => effOpF P cs ops σ p o
  | some true => if cs.fr != 0 then none else match guardOf ops σ o with
    | some pc => match opOCall P cs σ pc o with
      | some x => some { x.eff p o.dst with items := [.asm pc true, .call p x.k x.args []] }
      | none => none
    | none => none
  | some false => match guardOf ops σ o, opSigOf P cs σ o with
    | some pc, some sig => some ⟨o.dst, (pc, resSVx false p (.un (.cell 0) (.var p)) sig.res), [], [], [], [.asm pc false]⟩
    | _, _ => none

theorem effOpD_ok {d : Option Bool} {ops : Array Oper} {e : Eff} (hs : Sim n w0 S0 C G σ a w) (he : effOpD d P cs ops σ p o = some e) (hp : ¬ C.M p) (hpN : p < C.N) (hcon : ∀ k sig, lk cs.l k = some sig → PureFn P k sig (Pre k) (Φ k))
    (hlt : e.ent.2.lt C.N = true) (hit : ∀ it ∈ e.items, ItemOk C Φ Pre it) (hdst : ∀ d, o.dst = some d → d < n) (hcf : (S0.fr → cs.fr = 1) ∧ (S0.wz → cs.fr = 2)) : Stepped1 P n w0 S0 C (e.app σ) p ops a w o := by
  unfold effOpD at he
  split at he
  · unfold effOpF at he
    split at he
    · rename_i hf
      exact effOp_ok hs he hp hpN hcon hlt hit hdst (fun hff => by have := hcf.1 hff; omega) (fun hff => by have := hcf.2 hff; omega)
    · rename_i hf
      split at he
      · rename_i pc hg
        split at he
        · rename_i hok
          exact effOp0_ok hs he hp hpN hcon hlt hit hdst (fun _ pc' hg' => by rw [hg] at hg'; injection hg' with hg'; subst hg'; exact hok) (fun hff => by have := hcf.2 hff; omega)
        · cases he
      · cases he
    · rename_i hf0 hf1
      split at he
      · rename_i hk
        exact effOp0_ok hs he hp hpN hcon hlt hit hdst (fun hff => absurd (hcf.1 hff) hf1) (fun _ => hk)
      · cases he
  · split at he
    · cases he
    · rename_i hf
      have hf' : cs.fr = 0 := by simpa using hf
      split at he
      · rename_i pc hg
        split at he
        · rename_i x hx
          injection he with he; subst he
          exact stepped_ocall hs hp hpN hg (hit (.asm pc true) (by simp)) hx hcon (hit _ (by simp)) hlt hdst (fun hff => by have := hcf.1 hff; omega) (fun hff => by have := hcf.2 hff; omega)
        · cases he
      · cases he
  · split at he
    · rename_i pc sig hg hx
      injection he with he; subst he
      intro K Q hK
      obtain ⟨hw, hc⟩ := guardOf_ok hs.t hg
      have hpc : condB C.ρ pc = false := hit (.asm pc false) (by simp)
      rw [hw, hpc]
      simp only [Bool.false_eq_true, if_false]
      refine hK _ _ _ (hs.step (o := o) (Later.addM C w G p) ((hs.m.addM p).congr (updL_nil _) (updL_nil _)) rfl hlt hc (by intro _; simp only [hpc, Bool.false_eq_true, if_false]) hdst)
    · cases he

end
end Go.Eng
