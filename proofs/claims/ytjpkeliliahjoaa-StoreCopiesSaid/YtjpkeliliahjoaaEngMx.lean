/-
  Slices of their own kind: operations on their elements, as steps.
-/
import Derived.Test.YtjpkeliliahjoaaEngM
namespace Go.Eng
open Go Go.RowKit

section
variable {P : Program} {C : Cx} {w w0 : World} {S0 : Base} {G : Gh} {σ : St} {a : Act} {o : Oper} {pc : Cond} {s : SV} {is : List Item} {Φ : Nat → List D → D} {Pre : Nat → List D → Prop} {n p : Nat} {cs : Tbl}

theorem liveX_ok {g : Tag} {t : Ty} {e : E} {T : TypeId} (h : liveX σ g t = some (e, T)) : σ.live g = some (e, T, t) ∧ g.ex = true ∧ 0 < t.cells.length := by
  unfold liveX at h
  split at h
  · rename_i e' T' t' hl
    split at h
    · rename_i hc
      obtain ⟨rfl, h1, h2⟩ := hc
      injection h with h; simp only [Prod.mk.injEq] at h; obtain ⟨rfl, rfl⟩ := h
      exact ⟨hl, h1, h2⟩
    · cases h
  · cases h

theorem updL_same {g : Tag} {x : E × TypeId × Ty} (h : σ.live g = some x) : updL σ.live [(g, some x)] = σ.live := by
  rw [updL_cons, updL_nil]
  funext y
  split
  · rename_i hy; rw [hy, h]
  · rfl

theorem SimM.xElem (hm : SimM w0 S0 C G σ w) {g : Tag} {e : E} {T : TypeId} {t : Ty} (hl : σ.live g = some (e, T, t)) {b k cap : Nat} (hτ : G.τ g = .slice (some ⟨b, 0, none⟩) k cap) :
    ∃ (cur : Array Value) (l : List D), w.heap[b]? = some (.cells cur T (0, 0)) ∧ den C.ρ e = .list l ∧ l.length = k ∧ (∀ d ∈ l, Has t d) ∧ k * t.cells.length ≤ cur.size ∧ lenOk t k ∧
      ∀ (i : Nat) d (j : Nat) c, l[i]? = some d → d.cells[j]? = some c → ∃ v, cur[i * t.cells.length + j]? = some v ∧ Rep w G.S v c := by
  have hok := hm.own g e T t hl
  obtain ⟨xs, l, hd, ⟨hxl, hh⟩, hS, hr⟩ := hok.own
  obtain ⟨l', hl', hlm, hall⟩ := has_list.1 hok.has
  rw [hd] at hl'; injection hl' with hl'; subst hl'
  rcases hh with ⟨hv, _⟩ | ⟨b', cap', cur, hv, _, hcur, hnc, hcm, hcs, htake⟩
  · rw [hτ] at hv; cases hv
  · rw [hτ] at hv
    injection hv with hv1 hv2 hv3
    injection hv1 with hv1
    injection hv1 with hv1
    subst hv1; subst hv2; subst hv3
    refine ⟨cur, l, hcur, hd, rfl, hall, by rw [hcs]; exact Nat.mul_le_mul_right _ hnc, hlm, fun i d j c hi hj => ?_⟩
    have hil : i < l.length := (List.getElem?_eq_some_iff.1 hi).1
    have hwd := (has_cells (hall d (List.mem_of_getElem? hi))).1
    have hjl : j < t.cells.length := by rw [← hwd]; exact (List.getElem?_eq_some_iff.1 hj).1
    have hlt : i * t.cells.length + j < l.length * t.cells.length := by
      have : (i + 1) * t.cells.length ≤ l.length * t.cells.length := Nat.mul_le_mul_right _ hil
      rw [Nat.add_mul] at this; omega
    obtain ⟨v, hxs⟩ : ∃ v, xs[i * t.cells.length + j]? = some v := ⟨_, List.getElem?_eq_getElem (by omega)⟩
    refine ⟨v, ?_, hr i d j _ c hi hj hxs⟩
    rw [← htake, List.getElem?_take, if_pos hlt] at hxs
    simpa using hxs

/-- One element's cells: where they lie. -/
theorem SimM.xCells (hm : SimM w0 S0 C G σ w) {g : Tag} {e i : E} {T : TypeId} {t : Ty} (hl : σ.live g = some (e, T, t)) {b k cap : Nat} (hτ : G.τ g = .slice (some ⟨b, 0, none⟩) k cap) (hi : (den C.ρ i).toI.toNat < k) :
    ∃ (d : D) (uu : Nat → Value), (den C.ρ e).toL[(den C.ρ i).toI.toNat]? = some d ∧ den C.ρ (.bin .idx e i) = d ∧ Has t d ∧ ∀ (j : Nat) c, d.cells[j]? = some c → w.cell? ⟨b, (den C.ρ i).toI.toNat * t.cells.length + j, none⟩ = some (uu j) ∧ Rep w G.S (uu j) c := by
  obtain ⟨cur, l, hcur, hd, hlk, hall, _, _, hr⟩ := hm.xElem hl hτ
  have hli : l[(den C.ρ i).toI.toNat]? = some (l[(den C.ρ i).toI.toNat]'(by omega)) := List.getElem?_eq_getElem _
  refine ⟨_, fun j => cur.toList.getD ((den C.ρ i).toI.toNat * t.cells.length + j) undef, by rw [hd]; exact hli, ?_, hall _ (List.mem_of_getElem? hli), fun j c hj => ?_⟩
  · simp only [den, B.den, hd, D.toL]; exact toL_getD hli
  · obtain ⟨v, hv, hvr⟩ := hr _ _ j c hli hj
    have hv' : cur.toList[(den C.ρ i).toI.toNat * t.cells.length + j]? = some v := by simpa using hv
    have e1 : cur.toList.getD ((den C.ρ i).toI.toNat * t.cells.length + j) undef = v := by simp [List.getD, hv']
    simp only [e1]
    exact ⟨by rw [cell_of_row w b _ cur T (0, 0) hcur]; exact hv, hvr⟩

/-- A step that leaves memory alone. -/
theorem xPlain {ops : Array Oper} {e : Eff} (hs : Sim n w0 S0 C G σ a w) (hg : o.guard = none) {v : Value} (hrun : (execOp a.eval o).run P w = .ok (.value v) w) (hhp : e.hp = []) (hlv : updL σ.live e.live = σ.live)
    (hd : e.dst = o.dst) (hpc : e.ent.1 = []) (hlt : e.ent.2.lt C.N = true) (hv : RSV C w G e.ent.2 v) (hdst : ∀ d, o.dst = some d → d < n) : Stepped1 P n w0 S0 C (e.app σ) p ops a w o := by
  intro K Q hK
  have hw : Region.wanted o (yielded ops a.tmps) = true := by unfold Region.wanted; rw [hg]
  rw [hw, if_pos rfl]
  unfold Oper.wp
  rw [hrun]
  have hlat := Later.addM C w G p
  refine hK _ _ _ (hs.step (o := o) hlat ((hs.m.addM p).congr (by show updL σ.hp e.hp = _; rw [hhp, updL_nil]) hlv) hd hlt (by rw [hpc]; simp) (fun _ => ?_) hdst)
  rw [hpc]
  simp only [condB, List.all_nil, if_true]
  exact hv.later hlat

theorem stepped_xLoad {ops : Array Oper} {e : Eff} (hs : Sim n w0 S0 C G σ a w) (hg : o.guard = none) (h : xLoad P σ o = some e) (hlt : e.ent.2.lt C.N = true) (hdst : ∀ d, o.dst = some d → d < n) :
    Stepped1 P n w0 S0 C (e.app σ) p ops a w o := by
  unfold xLoad at h
  split at h
  · rename_i t x ho
    split at h
    · cases h
    · rename_i hsome
      have hsome : (P.underlying t).isSome = true := by cases hq : P.underlying t <;> simp [hq] at hsome ⊢
      split at h
      · rename_i g i u off hx
        split at h
        · rename_i el T hlx
          simp only [Option.map_eq_some_iff] at h
          obtain ⟨⟨s', is'⟩, h1, rfl⟩ := h
          obtain ⟨hl, hex, hpos⟩ := liveX_ok hlx
          obtain ⟨hM, hilt, b, cap, k, hτ, hi0, hik, hv⟩ := getV_ok hs.t (pc := []) rfl hx
          obtain ⟨d, uu, _, hd, hhas, hc⟩ := hs.m.xCells (i := i) hl hτ hik
          obtain ⟨v, k1, k2⟩ := elemLoad_ok (P := P) (C := C) (w := w) (G := G) (b := b) (o' := (den C.ρ i).toI.toNat * u.cells.length) (uu := uu) h1 hsome (by simp [E.lt, hilt, (hs.m.own _ _ _ _ hl).lt]) (by rw [hd]; exact hhas) (by rw [hd]; exact hc)
          refine xPlain (e := ⟨o.dst, ([], s'), [], [(g, some (el, T, u))], [], []⟩) (v := v) hs hg ?_ rfl (updL_same hl) rfl rfl hlt k2 hdst
          unfold execOp; simp only [ho, hv]
          rw [Sem.run_bind, k1]; rfl
        · cases h
      · cases h
  · cases h

theorem stepped_xLen {ops : Array Oper} {e : Eff} (hs : Sim n w0 S0 C G σ a w) (hg : o.guard = none) (h : xLen P σ o = some e) (hlt : e.ent.2.lt C.N = true) (hdst : ∀ d, o.dst = some d → d < n) :
    Stepped1 P n w0 S0 C (e.app σ) p ops a w o := by
  unfold xLen at h
  split at h
  · rename_i args argTypes ho
    split at h
    · rename_i x t hargs hat
      split at h
      · rename_i el g u hu hx
        split at h
        · rename_i ee T hlx
          injection h with h; subst h
          obtain ⟨hl, hex, hpos⟩ := liveX_ok hlx
          obtain ⟨hM, hv, A, k, cap, hsl⟩ := getV_ok hs.t (pc := []) rfl hx
          have hok := hs.m.own _ _ _ _ hl
          obtain ⟨l, hd, hlm, _⟩ := has_list.1 hok.has
          have hk : k = l.length := by
            obtain ⟨xs, l', hd', ⟨_, hh⟩, _⟩ := hok.own
            rw [hd] at hd'; injection hd' with hd'; subst hd'
            rw [← hv, hsl] at hh
            rcases hh with ⟨hv', hn⟩ | ⟨b', cap', cur, hv', _⟩
            · injection hv' with q1 q2 q3; omega
            · injection hv' with q1 q2 q3
          have hargs' : args = #[x] := by apply Array.ext'; simpa using hargs
          refine xPlain (v := .int .i64 l.length) hs hg ?_ rfl (updL_same hl) rfl rfl hlt ?_ hdst
          · unfold execOp; simp only [ho, resolve, invoke, builtin, hargs']
            simp [Builtin.len_, hat, hsl, run_underlying hu, goInt, hk]
          · refine ⟨by simpa [E.lt] using hok.lt, ?_, ?_⟩
            · simp only [den, U.den, hd, D.toL]; exact .int _ _
            · simp only [den, U.den, hd, D.toL]
              have hlm := hlm.1
              refine has_int.2 ⟨_, rfl, ?_, ?_⟩
              · show IntKind.i64.min ≤ _; simp [IntKind.min, IntKind.signed, IntKind.bits]; try omega
              · show _ ≤ IntKind.i64.max; simp [IntKind.max, IntKind.signed, IntKind.bits]; simp only [maxLen] at hlm; omega
        · cases h
      · cases h
    · cases h
  · cases h

theorem stepped_xIndex {ops : Array Oper} {e : Eff} (hs : Sim n w0 S0 C G σ a w) (hg : o.guard = none) (h : xIndex P σ o = some e) (hit : ∀ it ∈ e.items, ItemOk C Φ Pre it) (hlt : e.ent.2.lt C.N = true) (hdst : ∀ d, o.dst = some d → d < n) :
    Stepped1 P n w0 S0 C (e.app σ) p ops a w o := by
  unfold xIndex at h
  split at h
  · rename_i t x i ho
    split at h
    · rename_i el g u ie k hu hx hi
      split at h
      · rename_i ee T hlx
        split at h
        · rename_i hsz
          injection h with h; subst h
          obtain ⟨hl, hex, hpos⟩ := liveX_ok hlx
          obtain ⟨hM, hv, A, kk, cap, hsl⟩ := getV_ok hs.t (pc := []) rfl hx
          obtain ⟨y1, y2, y3⟩ := getD_ok hs.t (pc := []) rfl hi
          obtain ⟨m, hm, _⟩ := has_int.1 y3
          have hok := hs.m.own _ _ _ _ hl
          obtain ⟨l, hd, hlm, _⟩ := has_list.1 hok.has
          have hob : ItemOk C Φ Pre (.obl [] (.bin .and (.bin .le (.kint k 0) ie) (.bin .lt ie (.un .len ee)))) := hit _ (by simp)
          have hb := hob.2 rfl
          simp only [den, B.den, U.den, hd, hm, D.toI, D.toB, D.toL, Bool.and_eq_true, decide_eq_true_eq] at hb
          obtain ⟨hb0, hb1⟩ := hb
          obtain ⟨xs, l', hd', ⟨_, hh⟩, _⟩ := hok.own
          rw [hd] at hd'; injection hd' with hd'; subst hd'
          rcases hh with ⟨_, hn⟩ | ⟨b, cap', cur, hv', _⟩
          · omega
          · have hvi : a.eval i = .int k m := (hm ▸ y2).inv_int
            have hxv : a.eval x = .slice (some ⟨b, 0, none⟩) l.length cap' := by rw [hv, hv']
            refine xPlain (v := .pointer (some ⟨b, m.toNat * u.cells.length, none⟩)) hs hg ?_ rfl (updL_same hl) rfl rfl hlt ?_ hdst
            · have h1 := run_sizeT (P := P) (w := w) hsz
              unfold execOp; simp only [ho, hxv, hvi, Instr.indexAt, asIntOf]
              simp [run_underlying hu, hb0, hb1, h1, addr_add]
            · refine ⟨hM, y1, b, cap', l.length, hv', ?_, ?_, ?_⟩
              · rw [hm]; exact hb0
              · rw [hm]; simp only [D.toI]; omega
              · rw [hm]; simp only [D.toI]; rw [Nat.add_zero]
        · cases h
      · cases h
    · cases h
  · cases h

theorem ofL_lt {N : Nat} : ∀ (l : List E), (E.ofL l).lt N = true ↔ ∀ e ∈ l, e.lt N = true
  | [] => by simp [E.ofL, E.lt]
  | e :: l => by simp [E.ofL, E.lt, ofL_lt l]

theorem hasL_swap : ∀ {fs : Ty} {l0 l : List D}, HasL fs l0 → HasL (.ofL fs.toL) l → HasL fs l
  | .nil, _, l, _, h => h
  | .cons a b, l0, l, h0, h => by
    obtain ⟨_, r0, _, _, hr0⟩ := has_cons.1 h0
    obtain ⟨x, r, rfl, hx, hr⟩ := has_cons.1 h
    exact has_cons.2 ⟨x, r, rfl, hx, hasL_swap hr0 hr⟩
  | .int _, _, _, h, _ | .bool, _, _, h, _ | .str, _, _, h, _ | .list _, _, _, h, _ | .agg _, _, _, h, _ | .tup _, _, _, h, _ | .box _, _, _, h, _ | .ptr _, _, _, h, _ | .fn _ _, _, _, h, _ => h.elim

theorem cells_scalar {u : Ty} {d : D} (hs : u.scalar = true) (h : Has u d) : u.cells = [u] ∧ d.cells = [d] := by
  have hu : u.cells = [u] := by cases u <;> first | rfl | cases hs
  refine ⟨hu, ?_⟩
  cases d <;> first | rfl | (rename_i l; exfalso; cases u <;> simp [Ty.scalar] at hs <;> simp [has_int, has_bool, has_str, has_list, has_box, has_ptr, has_fn] at h)

theorem setElE_ok {u : Ty} {el x : E} {off : Nat} {es : List E} {ts : List Ty} (h : setElE u el off es = some x) (hel : el.lt C.N = true) (hes : (E.ofL es).lt C.N = true) (hu : Has u (den C.ρ el))
    (hle : off + es.length ≤ u.cells.length) (hts : ts = (u.cells.drop off).take es.length) (hh : HasL (.ofL ts) (es.map (den C.ρ))) :
    x.lt C.N = true ∧ Has u (den C.ρ x) ∧ ∀ (j : Nat) c, (den C.ρ x).cells[j]? = some c → if off ≤ j ∧ j < off + es.length then (es[j - off]?).map (den C.ρ) = some c else (den C.ρ el).cells[j]? = some c := by
  have hesl := (ofL_lt es).1 hes
  unfold setElE at h
  split at h
  · rename_i fs
    injection h with h; subst h
    obtain ⟨l0, hl0, hh0⟩ := has_agg.1 hu
    have hlen := hasL_len hh0
    have hmap : ((cellsE el 0 fs.toL).map (·.1)).map (den C.ρ) = l0 := by
      apply List.ext_getElem?
      intro i
      simp only [List.getElem?_map, cellsE_get, Option.map_map]
      cases hi : (fs.toL)[i]? with
      | none =>
        have : l0.length ≤ i := by rw [hlen]; exact List.getElem?_eq_none_iff.1 hi
        simp [List.getElem?_eq_none this]
      | some t =>
        obtain ⟨y, hy, _⟩ := hasL_get hh0 i t hi
        simp only [Option.map_some, Function.comp, den, U.den, hl0, D.toL, Nat.zero_add, toL_getD hy, hy]
    have hle' : off + es.length ≤ l0.length := by rw [hlen]; exact hle
    have hden : den C.ρ (.un .agg (.ofL (((cellsE el 0 fs.toL).map (·.1)).take off ++ es ++ ((cellsE el 0 fs.toL).map (·.1)).drop (off + es.length)))) = .agg (l0.take off ++ es.map (den C.ρ) ++ l0.drop (off + es.length)) := by
      simp only [den, den_ofL, U.den, D.toL, List.map_append, List.map_take, List.map_drop, hmap]
    have hget : ∀ (j : Nat) c, (l0.take off ++ es.map (den C.ρ) ++ l0.drop (off + es.length))[j]? = some c → if off ≤ j ∧ j < off + es.length then (es[j - off]?).map (den C.ρ) = some c else l0[j]? = some c := by
      intro j c hj
      have h1 : (l0.take off).length = off := by rw [List.length_take]; omega
      split
      · rename_i hc
        rw [List.getElem?_append_left (by simp [h1]; omega), List.getElem?_append_right (by omega), h1] at hj
        simpa using hj
      · rename_i hc
        by_cases hjo : j < off
        · rw [List.getElem?_append_left (by simp [h1]; omega), List.getElem?_append_left (by omega), List.getElem?_take, if_pos hjo] at hj; exact hj
        · rw [List.getElem?_append_right (by simp [h1]; omega)] at hj
          simp only [List.length_append, h1, List.length_map, List.getElem?_drop] at hj
          rw [show off + es.length + (j - (off + es.length)) = j by omega] at hj; exact hj
    refine ⟨?_, ?_, ?_⟩
    · simp only [E.lt]
      rw [ofL_lt]
      have hcl : ∀ e ∈ (cellsE el 0 fs.toL).map (·.1), e.lt C.N = true := by
        intro e he
        obtain ⟨i, hi⟩ := List.getElem?_of_mem he
        simp only [List.getElem?_map, cellsE_get, Option.map_map, Option.map_eq_some_iff] at hi
        obtain ⟨_, _, rfl⟩ := hi
        simpa [E.lt] using hel
      intro e he
      simp only [List.mem_append] at he
      rcases he with (he | he) | he
      · exact hcl e (List.mem_of_mem_take he)
      · exact hesl e he
      · exact hcl e (List.mem_of_mem_drop he)
    · rw [hden]
      refine has_agg.2 ⟨_, rfl, hasL_swap hh0 (hasL_mk ?_ fun j t y hj hy => ?_)⟩
      · simp only [List.length_append, List.length_take, List.length_map, List.length_drop]; omega
      · have := hget j y hy
        split at this
        · rename_i hc
          have ht : ts[j - off]? = some t := by
            rw [hts, List.getElem?_take, if_pos (by omega), List.getElem?_drop, show off + (j - off) = j by omega]; exact hj
          obtain ⟨z, hz, hzt⟩ := hasL_get hh (j - off) t (by rw [Ty.toL_ofL]; exact ht)
          simp only [List.getElem?_map] at hz
          rw [this] at hz; injection hz with hz; subst hz; exact hzt
        · obtain ⟨z, hz, hzt⟩ := hasL_get hh0 j t hj
          rw [this] at hz; injection hz with hz; subst hz; exact hzt
    · rw [hden]
      intro j c hj
      have := hget j c hj
      rw [hl0]; exact this
  · rename_i x' _
    split at h
    · rename_i hc
      obtain ⟨rfl, hsc⟩ := hc
      injection h with h; subst h
      have hxx : Has u (den C.ρ x') := by
        have hc1 : u.cells = [u] := by cases u <;> first | rfl | cases hsc
        rw [hc1] at hts
        simp at hts
        subst hts
        obtain ⟨z, hz, hzt⟩ := hasL_get hh 0 u (by simp [Ty.ofL, Ty.toL])
        simp at hz; subst hz; exact hzt
      refine ⟨hesl x' (by simp), hxx, fun j c hj => ?_⟩
      rw [(cells_scalar hsc hxx).2] at hj
      cases j with
      | zero => simp at hj ⊢; exact hj
      | succ j => simp at hj
    · cases h
  · cases h

theorem stepped_xStore {ops : Array Oper} {e : Eff} (hs : Sim n w0 S0 C G σ a w) (hg : o.guard = none) (h : xStore P σ o = some e) : Stepped1 P n w0 S0 C (e.app σ) p ops a w o := by
  unfold xStore at h
  split at h
  · rename_i t x y ho
    split at h
    · rename_i g i u off es ts sz hx hy hsz
      split at h
      · rename_i el T hlx
        split at h
        · rename_i hcnd
          obtain ⟨hn, hle, hts, hsc, hd⟩ := hcnd
          simp only [Option.map_eq_some_iff] at h
          obtain ⟨xe, hxe, rfl⟩ := h
          obtain ⟨hl, hex, hpos⟩ := liveX_ok hlx
          obtain ⟨hM, hilt, b, cap, k, hτ, hi0, hik, hv⟩ := getV_ok hs.t (pc := []) rfl hx
          obtain ⟨cur, l, hcur, hden, hlk, hall, hcsz, hlo, hr⟩ := hs.m.xElem hl hτ
          obtain ⟨d, _, hld, hdd, hdh, _⟩ := hs.m.xCells (i := i) hl hτ hik
          rw [hden] at hld
          simp only [D.toL] at hld
          generalize hI : (den C.ρ i).toI.toNat = I at *
          have hwd := (has_cells hdh).1
          -- the values
          obtain ⟨us, hus, hru⟩ : ∃ us : List Value, (a.eval y).cells = us.toArray ∧ (E.ofL es).lt C.N = true ∧ es.length = us.length ∧ ts.length = us.length ∧ (∀ (i : Nat) v e, us[i]? = some v → es[i]? = some e → Rep w G.S v (den C.ρ e)) ∧ HasL (.ofL ts) (es.map (den C.ρ)) ∧ ∀ u ∈ us, u.oneCell' = true := by
            cases hgy : getV P σ [] y t with
            | none => simp [hgy] at hy
            | some sv =>
              simp only [hgy, Option.bind_some] at hy
              cases hac : asCells sv with
              | none => simp [hac] at hy
              | some csl =>
                simp only [hac, Option.bind_some] at hy
                have hscs : csl.all SC.scalar = true := by
                  rw [List.all_eq_true]
                  intro c hc
                  obtain ⟨j, hj⟩ := List.getElem?_of_mem hc
                  have : ∀ {l : List SC} {es : List E} {ts : List Ty} {j : Nat} {c : SC}, asDatas l = some (es, ts) → ts.all Ty.scalar = true → l[j]? = some c → c.scalar = true := by
                    intro l
                    induction l with
                    | nil => intro es ts j c _ _ hj; simp at hj
                    | cons c0 l ih =>
                      intro es ts j c h hs hj
                      simp only [asDatas] at h
                      split at h
                      · rename_i e0 t0 es' ts' h1 h2
                        injection h with h; simp only [Prod.mk.injEq] at h; obtain ⟨rfl, rfl⟩ := h
                        simp only [List.all_cons, Bool.and_eq_true] at hs
                        cases j with
                        | zero =>
                          simp at hj; subst hj
                          cases c0 <;> simp only [asData] at h1 <;> first
                            | rfl
                            | (injection h1 with h1; simp only [Prod.mk.injEq] at h1; obtain ⟨_, rfl⟩ := h1; exact hs.1)
                        | succ j => exact ih h2 hs.2 (by simpa using hj)
                      · cases h
                  exact this hy hsc hj
                obtain ⟨us, h1, h2⟩ := asCells_ok hac (getV_ok hs.t (pc := []) rfl hgy) hscs
                obtain ⟨m1, m2, m3, m4, m5⟩ := asDatas_ok hy h2
                refine ⟨us, h1, m1, m2, m3, m4, m5, fun v hv => ?_⟩
                obtain ⟨j, hj⟩ := List.getElem?_of_mem hv
                have hjl : j < us.length := (List.getElem?_eq_some_iff.1 hj).1
                have hcj : csl[j]? = some (csl[j]'(by rw [← h2.1]; exact hjl)) := List.getElem?_eq_getElem _
                exact (h2.2 j _ v hcj hj).oneCell (List.all_eq_true.1 hscs _ (List.mem_of_getElem? hcj))
          obtain ⟨heslt, hesl, htsl, hrep, hhl, hone⟩ := hru
          have hlt1 : (E.bin .idx el i).lt C.N = true := by simp [E.lt, (hs.m.own _ _ _ _ hl).lt, hilt]
          obtain ⟨hxlt, hxh, hxc⟩ := setElE_ok (C := C) hxe hlt1 heslt (by rw [hdd]; exact hdh) (by rw [hn]; exact hle) (by rw [hn]; exact hts) hhl
          rw [hdd] at hxc
          generalize hd' : den C.ρ xe = d' at *
          have hIl : I < l.length := by omega
          have hwd' := (has_cells hxh).1
          let l' := l.take I ++ d' :: (l.drop I).drop 1
          have hl'len : l'.length = l.length := by simp only [l', List.length_append, List.length_take, List.length_cons, List.length_drop]; omega
          have hdl' : den C.ρ (setLE el i xe) = .list l' := by
            have : den C.ρ (setLE el i xe) = .list (l.take (den C.ρ i).toI.toNat ++ d' :: (l.drop (den C.ρ i).toI.toNat).drop 1) := by simp only [setLE, den, B.den, hden, D.toL, hd']; rfl
            rw [this, hI]
          have hl'get : ∀ (q : Nat) dd, l'[q]? = some dd → (q = I ∧ dd = d') ∨ (q ≠ I ∧ l[q]? = some dd) := by
            intro q dd hq
            have h1 : (l.take I).length = I := by rw [List.length_take]; omega
            by_cases hqi : q < I
            · simp only [l'] at hq
              rw [List.getElem?_append_left (by omega), List.getElem?_take, if_pos hqi] at hq
              exact .inr ⟨by omega, hq⟩
            · simp only [l'] at hq
              rw [List.getElem?_append_right (by omega), h1] at hq
              by_cases hqe : q = I
              · rw [hqe, Nat.sub_self] at hq; simp at hq; exact .inl ⟨hqe, hq.symm⟩
              · rw [show q - I = (q - I - 1) + 1 by omega, List.getElem?_cons_succ, List.getElem?_drop, List.getElem?_drop] at hq
                rw [show I + (1 + (q - I - 1)) = q by omega] at hq
                exact .inr ⟨hqe, hq⟩
          have hbound : (I + 1) * u.cells.length ≤ k * u.cells.length := Nat.mul_le_mul_right _ (by omega)
          have hb2 : (I + 1) * u.cells.length = I * u.cells.length + u.cells.length := by rw [Nat.add_mul, Nat.one_mul]
          have hfit : I * u.cells.length + off + us.length ≤ cur.size := by omega
          have hst := run_storeCells_at P b (I * u.cells.length + off) T us 0 cur w hcur (by simpa using hfit) hone
          simp only [Nat.add_zero] at hst
          have hrun : (execOp a.eval o).run P w = .ok .skip (w.setRow b (cur.toList.take (I * u.cells.length + off) ++ us ++ cur.toList.drop (I * u.cells.length + off + us.length)).toArray) := by
            have h1 := run_sizeT (P := P) (w := w) hsz
            unfold execOp; simp only [ho, hv, Instr.storeAt, Instr.sureAddr]
            simp [storeVar, h1, hus, hst, ← hesl, hn]
          intro K Q hK
          have hw : Region.wanted o (yielded ops a.tmps) = true := by unfold Region.wanted; rw [hg]
          rw [hw, if_pos rfl]
          unfold Oper.wp
          rw [hrun]
          obtain ⟨hlat, hm⟩ := hs.m.setX hl hex (e' := setLE el i xe) (live' := updL σ.live [(g, some (setLE el i xe, T, u))]) (l' := l') (row := (cur.toList.take (I * u.cells.length + off) ++ us ++ cur.toList.drop (I * u.cells.length + off + us.length)).toArray)
            (by
              intro g' x' hx'
              rw [updL_cons, updL_nil] at hx'
              have hx' : (if g' = g then some (setLE el i xe, T, u) else σ.live g') = some x' := hx'
              by_cases he : g' = g
              · rw [if_pos he] at hx'; injection hx' with hx'; exact .inr ⟨he, hx'.symm⟩
              · rw [if_neg he] at hx'; exact .inl ⟨he, hx'⟩) hτ hcur (by simp; omega)
            (by simp [setLE, E.lt, (hs.m.own _ _ _ _ hl).lt, hilt, hxlt]) hdl' (by rw [hl'len, hlk])
            (by
              rw [hdl']
              refine has_list.2 ⟨l', rfl, by rw [hl'len, hlk]; exact hlo, fun z hz => ?_⟩
              obtain ⟨q, hq⟩ := List.getElem?_of_mem hz
              rcases hl'get q z hq with ⟨_, rfl⟩ | ⟨_, hq'⟩
              · exact hxh
              · exact hall z (List.mem_of_getElem? hq'))
            (by
              intro q dd j v c hq hj hvv
              have htl : (cur.toList.take (I * u.cells.length + off)).length = I * u.cells.length + off := by
                have hcl : cur.toList.length = cur.size := by simp
                rw [List.length_take, hcl]; omega
              have rowOut : ∀ z, (z < I * u.cells.length + off ∨ I * u.cells.length + off + us.length ≤ z) → (cur.toList.take (I * u.cells.length + off) ++ us ++ cur.toList.drop (I * u.cells.length + off + us.length)).toArray[z]? = cur[z]? := by
                intro z hz
                rw [List.getElem?_toArray]
                rcases hz with hz | hz
                · rw [List.getElem?_append_left (by rw [List.length_append, htl]; omega), List.getElem?_append_left (by omega), List.getElem?_take, if_pos hz]; simp
                · rw [List.getElem?_append_right (by rw [List.length_append, htl]; omega), List.getElem?_drop, List.length_append, htl]
                  rw [show I * u.cells.length + off + us.length + (z - (I * u.cells.length + off + us.length)) = z by omega]; simp
              have old : ∀ (q : Nat) dd, l[q]? = some dd → dd.cells[j]? = some c → (q * u.cells.length + j < I * u.cells.length + off ∨ I * u.cells.length + off + us.length ≤ q * u.cells.length + j) → (cur.toList.take (I * u.cells.length + off) ++ us ++ cur.toList.drop (I * u.cells.length + off + us.length)).toArray[q * u.cells.length + j]? = some v → Rep w G.S v c := by
                intro q dd hq hj hz hvv
                rw [rowOut _ hz] at hvv
                obtain ⟨v0, hv0, hv1⟩ := hr q dd j c hq hj
                rw [hvv] at hv0; injection hv0 with hv0; subst hv0; exact hv1
              rcases hl'get q dd hq with ⟨rfl, rfl⟩ | ⟨hne, hq'⟩
              · have hc := hxc j c hj
                split at hc
                · rename_i hjo
                  rw [List.getElem?_toArray, List.getElem?_append_left (by rw [List.length_append, htl]; omega), List.getElem?_append_right (by omega), htl] at hvv
                  rw [show q * u.cells.length + j - (q * u.cells.length + off) = j - off by omega] at hvv
                  cases hej : es[j - off]? with
                  | none => rw [hej] at hc; cases hc
                  | some ee =>
                    rw [hej] at hc
                    simp only [Option.map_some, Option.some.injEq] at hc
                    rw [← hc]
                    exact hrep _ v ee hvv hej
                · rename_i hjo
                  exact old q d hld hc (by omega) hvv
              · have hjl : j < u.cells.length := by rw [← (has_cells (hall dd (List.mem_of_getElem? hq'))).1]; exact (List.getElem?_eq_some_iff.1 hj).1
                refine old q dd hq' hj ?_ hvv
                rcases Nat.lt_or_gt_of_ne hne with h1 | h1
                · have : (q + 1) * u.cells.length ≤ I * u.cells.length := Nat.mul_le_mul_right _ h1
                  rw [Nat.add_mul] at this; omega
                · have : (I + 1) * u.cells.length ≤ q * u.cells.length := Nat.mul_le_mul_right _ h1
                  omega)
          have hlat' := hlat.trans (Later.addM C _ G p)
          exact hK _ _ _ (hs.step (o := o) (e := ⟨none, ([], .agg []), [], [(g, some (setLE el i xe, T, u))], [], []⟩) hlat' ((hm.addM p).congr (updL_nil _) rfl) hd.symm rfl (by simp)
            (v := undef) (by rintro ⟨d, hd'⟩; rw [hd] at hd'; cases hd') (by intro d hd'; rw [hd] at hd'; cases hd'))
        · cases h
      · cases h
    · cases h
  · cases h
end
end Go.Eng
