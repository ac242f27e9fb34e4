/-
  append, by where the new row lies; and what calls and appends do to the symbolic state.
-/
import Derived.Test.YtjpkeliliahjoaaEngC
namespace Go.Eng
open Go Go.RowKit

theorem addr_add (b o j : Nat) : (⟨b, o, none⟩ : Addr).add j = ⟨b, o + j, none⟩ := by unfold Addr.add; split <;> simp_all

section
variable {P : Program} (w : World)

theorem run_append_cases (base : Nat) (t ty e : TypeId) (i : TypeInfo) (z : Value) (size : Nat) (ht : P.underlying t = some (.slice e)) (hi : P.info? e = some i) (hz : i.zero = some z)
    (hsize : i.size = size) (hzs : z.cells.size = size)
    (v : Value) (n : Nat) (xs : List Value) (hown : w.ownsRow base e size v n xs)
    (A : Option Addr) (m c : Nat) (news : List Value) (hA : A = none → m = 0) (hl : news.length = m * size)
    (hnews : ∀ a, A = some a → ∀ (j : Nat) u, news[j]? = some u → w.cell? (a.add j) = some u) (h1 : ∀ u ∈ news, u.oneCell' = true)
    (h63 : n + m ≤ maxLen) (hbytes : (n + m) * i.bytes ≤ 140737488355328) (hbase : base ≤ w.heap.size) :
    ∃ v' w', (Builtin.append_ #[t, t] ty #[v, .slice A m c]).run P w = .ok v' w' ∧ w'.ownsRow base e size v' (n + m) (xs ++ news) ∧
      ((v'.ownBlock = v.ownBlock ∧ w.grownBy w' v.ownBlock) ∨ (v'.ownBlock = some w.heap.size ∧ w.grownBy w' none)) := by
  subst hsize
  have hsmall : n + m ≤ 9223372036854775807 := by simp only [maxLen] at h63; omega
  have hlen : (xs ++ news).length = (n + m) * i.size := by rw [List.length_append, hown.1, hl, Nat.add_mul]
  by_cases hm : m = 0
  · subst hm
    have hn : news = [] := List.eq_nil_of_length_eq_zero (by simpa using hl)
    subst hn
    refine ⟨v, w, ?_, by simpa using hown, .inl ⟨rfl, ⟨rfl, rfl, rfl, Nat.le_refl _, fun _ _ _ => rfl⟩⟩⟩
    rcases hown.2 with ⟨rfl, rfl⟩ | ⟨g, cap, cur, rfl, _, _, hnc, _⟩
    · cases A <;> simp [Builtin.append_, run_underlying ht, sizeOf, typeInfo, hi, Builtin.lenOf, Builtin.firstCells, loadCells, loadCellsFrom]
    · cases A <;> simp [Builtin.append_, run_underlying ht, sizeOf, typeInfo, hi, Builtin.lenOf, Builtin.firstCells, hnc, storeCells, loadCells, loadCellsFrom]
  · obtain ⟨a, rfl⟩ : ∃ a, A = some a := by
      cases A with
      | none => exact absurd (hA rfl) hm
      | some a => exact ⟨a, rfl⟩
    have hnews := hnews a rfl
    have grown : ∀ (old : Nat), old < n + m →
        (w.drew.alloc (.cells (xs.toArray ++ news.toArray ++ Builtin.zeroCells z.cells (grownCap w (n + m) old e - (n + m))) e)).ownsRow base e i.size
          (.slice (some ⟨w.heap.size, 0, none⟩) (n + m) (grownCap w (n + m) old e)) (n + m) (xs ++ news) ∧
        w.grownBy (w.drew.alloc (.cells (xs.toArray ++ news.toArray ++ Builtin.zeroCells z.cells (grownCap w (n + m) old e - (n + m))) e)) none := by
      intro old ho
      have hge := grownCap_ge w (n + m) old e
      have hcm : grownCap w (n + m) old e ≤ maxLen := grownCap_le_maxLen w (n + m) old e h63
      refine ⟨⟨hlen, .inr ⟨w.heap.size, _, _, rfl, hbase, heap_alloc_new w.drew _, hge, hcm, ?_, ?_⟩⟩, ⟨rfl, rfl, rfl, by simp, fun k hk _ => heap_alloc_old w.drew _ k hk⟩⟩
      · simp only [Array.size_append, List.size_toArray, size_zeroCells, hzs, hown.1, hl, ← Nat.add_mul]
        congr 1
        omega
      · simp only [Array.toList_append, List.append_assoc]
        rw [← List.append_assoc, ← hlen]
        exact List.take_left
    rcases hown.2 with ⟨rfl, rfl⟩ | ⟨g, cap, cur, rfl, hbg, hg, hnc, hcm, hcs, htake⟩
    · have hx : xs = [] := List.eq_nil_of_length_eq_zero (by simpa using hown.1)
      subst hx
      have hr := run_append_nil (P := P) w t ty e i z ht hi hz a m c news hl hnews (by omega) (by omega) (by have hb := hbytes; simp only [Nat.zero_add] at hb; omega)
      have hgr := grown 0 (by omega)
      simp only [Nat.zero_add, List.nil_append, Array.empty_append] at hgr ⊢
      exact ⟨_, _, hr, hgr.1, .inr ⟨rfl, hgr.2⟩⟩
    · by_cases hroom : n + m ≤ cap
      · have hfit : n * i.size + news.length ≤ cur.size := by rw [hl, hcs, ← Nat.add_mul]; exact Nat.mul_le_mul_right _ hroom
        have hr := run_append_room (P := P) w t ty e i ht hi g n cap cur hg a m c news hl hnews h1 hroom hfit
        refine ⟨_, _, hr, ⟨hlen, .inr ⟨g, cap, _, rfl, hbg, setRow_heap w g cur _ e _ hg, hroom, hcm, ?_, ?_⟩⟩, .inl ⟨rfl, ⟨rfl, rfl, rfl, by simp, fun k _ hk => setRow_other w g k _ (fun e => hk (by simp [Value.ownBlock, e]))⟩⟩⟩
        · simp only [List.size_toArray, List.length_append, List.length_take, List.length_drop, Array.length_toList]
          omega
        · rw [htake, ← hlen]
          exact List.take_left
      · have holds : ∀ (j : Nat) u, xs[j]? = some u → w.cell? ((⟨g, 0, none⟩ : Addr).add j) = some u := hown.cells (g := g) rfl
        have hr := run_append_grow (P := P) w t ty e i z ht hi hz ⟨g, 0, none⟩ n cap xs hown.1 holds a m c news hl hnews (by omega) (by omega) (growslice_fits (by omega) hbytes)
        have hgr := grown cap (by omega)
        exact ⟨_, _, hr, hgr.1, .inr ⟨rfl, hgr.2⟩⟩
end

section
variable {C : Cx} {w w' w0 : World} {G : Gh} {S0 : Base} {σ : St} {p : Nat}

theorem OwnOk.mono {base base' : Nat} {g : Tag} {e : E} {T : TypeId} {t : Ty} (h : OwnOk C w base G g e T t) (hb : base' ≤ base) : OwnOk C w base' G g e T t := by
  obtain ⟨xs, l, hd, hown, hrest⟩ := h.own
  refine ⟨h.m, h.lt, h.has, xs, l, hd, ⟨hown.1, ?_⟩, hrest⟩
  rcases hown.2 with hn | ⟨b, cap, cur, hv, hbb, hg⟩
  · exact .inl hn
  · exact .inr ⟨b, cap, cur, hv, by omega, hg⟩

/-- Behind a call (or whatever leaves all blocks as they were): new blocks, of which some are owned slices. -/
theorem SimM.called (h : SimM w0 S0 C G σ w) (hp : ¬ C.M p) {S' : Foot} {τ' : Nat → Value} (hbel : Below w.heap.size w w') (hS : ∀ b o, G.S b o → S' b o) (hlt : ∀ b o, S' b o → b < w'.heap.size)
    (hnew : ∀ b o, S' b o → G.S b o ∨ w.heap.size ≤ b) (live' : Tag → Option (E × TypeId × Ty)) (G' : Gh)
    (hG : G' = { S := S', β := G.β, τ := fun g => if g.1 = p then τ' g.2 else G.τ g })
    (hlive : ∀ g x, live' g = some x → (g.1 ≠ p ∧ σ.live g = some x) ∨ (g.1 = p ∧ OwnOk (C.add p) w' w.heap.size G' g x.1 x.2.1 x.2.2))
    (hdis : ∀ j k x y b, live' (p, j) = some x → live' (p, k) = some y → (τ' j).ownBlock = some b → (τ' k).ownBlock = some b → j = k)
    (hfr : S0.fr → ∀ j, FrV (NewB w0 S0) w' S' (τ' j)) (hnw : ¬ S0.wz) :
    Later C w G (C.add p) w' G' ∧ SimM w0 S0 (C.add p) G' { σ with live := live' } w' := by
  subst hG
  have hblk : ∀ k, k < w.heap.size → w'.heap[k]? = w.heap[k]? := hbel.block
  have hlat : Later C w G (C.add p) w' { S := S', β := G.β, τ := fun g => if g.1 = p then τ' g.2 else G.τ g } :=
    ⟨fun _ h => ⟨rfl, h⟩, fun _ h => .inl h, hS, fun b o hs => World.cell?_of_block (hblk b (h.footlt b o hs)), fun _ _ => rfl, fun g hg => if_neg (fun e => hp (by rw [← e]; exact hg))⟩
  refine ⟨hlat, ?_⟩
  have hb := h.base_le
  refine ⟨h.below.trans (.of hbel), fun b o hs => hS b o (h.foot0 b o hs), h.keep_later hlat, h.pin_later hlat, h.pinmu, hlt, ?_, fun id x hx => .inl (h.boxM id x hx), ?_, h.inj, ?_, ?_, ?_, ?_, fun hf g => ?_, fun h => absurd h hnw⟩
  rotate_right
  · show FrV (NewB w0 S0) w' S' (if g.1 = p then τ' g.2 else G.τ g)
    split
    · exact hfr hf g.2
    · exact (h.fresh hf g).mono (fun b o hs => hblk b (h.footlt b o hs)) hS (fun b o hs ⟨o', ho'⟩ => by
        rcases hnew b o hs with h6 | h6
        · exact h6
        · have := h.footlt _ _ ho'; omega)
  · intro b o hs
    rcases hnew b o hs with h1 | h1
    · exact h.footnew b o h1
    · exact .inr (.inl (by omega))
  · intro id ro cs hx
    obtain ⟨h1, h2, ⟨vs, T, h3, h4⟩, h5⟩ := h.box id ro cs hx
    have hlt := h.box_lt hx
    refine ⟨h1, h2, ⟨vs, T, (hblk _ hlt).trans h3, h4.later hlat⟩, ?_⟩
    cases ro with
    | true => simp only [if_true] at h5 ⊢; exact fun o ho => hS _ _ (h5 o ho)
    | false =>
      simp only [Bool.false_eq_true, if_false] at h5 ⊢
      intro o ho
      rcases hnew _ _ ho with h6 | h6
      · exact h5 o h6
      · omega
  · intro g e T t hx
    rcases hlive g _ hx with ⟨h1, h2⟩ | ⟨h1, h2⟩
    · have ho := h.own g e T t h2
      refine ho.later hlat (fun b hb' => hblk b (ho.lt_heap b hb').2) (fun b hb' o hs => ?_)
      rcases hnew b o hs with h6 | h6
      · exact h6
      · have := (ho.lt_heap b hb').2; omega
    · exact h2.mono (Nat.zero_le _)
  · intro g x b hx hgb
    rcases hlive g _ hx with ⟨h1, h2⟩ | ⟨h1, h2⟩
    · simp only [if_neg h1] at hgb
      exact h.ownnew g x b h2 hgb
    · exact .inl (by have := (h2.lt_heap b hgb).1; omega)
  · intro g g' x y b hx hy hgb hgb'
    rcases hlive g _ hx with ⟨h1, h2⟩ | ⟨h1, h2⟩ <;> rcases hlive g' _ hy with ⟨h3, h4⟩ | ⟨h3, h4⟩
    · simp only [if_neg h1] at hgb; simp only [if_neg h3] at hgb'
      exact h.ownne g g' x y b h2 h4 hgb hgb'
    · simp only [if_neg h1] at hgb
      have h5 := ((h.own g x.1 x.2.1 x.2.2 h2).lt_heap b hgb).2
      have h6 := (h4.lt_heap b hgb').1
      omega
    · simp only [if_neg h3] at hgb'
      have h5 := ((h.own g' y.1 y.2.1 y.2.2 h4).lt_heap b hgb').2
      have h6 := (h2.lt_heap b hgb).1
      omega
    · obtain ⟨g1, j⟩ := g
      obtain ⟨g2, k⟩ := g'
      simp only at h1 h3
      subst h1; subst h3
      simp only [if_true] at hgb hgb'
      rw [hdis j k x y b hx hy hgb hgb']
  · intro g id x y b hx hy hgb
    rcases hlive g _ hx with ⟨h1, h2⟩ | ⟨h1, h2⟩
    · simp only [if_neg h1] at hgb
      exact h.ownbox g id x y b h2 hy hgb
    · have h6 := (h2.lt_heap b hgb).1
      have h7 := h.box_lt hy
      intro he
      have h8 : b = G.β id := he
      omega

/-- Behind an append onto an owned slice, or onto nil: the new slice is owned, the old one no more. -/
theorem SimM.appended (h : SimM w0 S0 C G σ w) (hp : ¬ C.M p) (q : Nat) {v v' : Value} {T : TypeId} {t : Ty} {n m : Nat} {xs news : List Value} {l l2 : List D} {e2 : E}
    (hsz : 0 < t.cells.length) (hln : l.length = n) (hlm : l2.length = m)
    (hxr : ∀ (i : Nat) d (j : Nat) u c, l[i]? = some d → d.cells[j]? = some c → xs[i * t.cells.length + j]? = some u → Rep w G.S u c)
    (hnr : ∀ (i : Nat) d (j : Nat) u c, l2[i]? = some d → d.cells[j]? = some c → news[i * t.cells.length + j]? = some u → Rep w G.S u c)
    (hxw : ∀ d ∈ l, d.cells.length = t.cells.length)
    (hx : xs.length = n * t.cells.length) (hown : w'.ownsRow 0 T t.cells.length v' (n + m) (xs ++ news))
    (hcase : (v'.ownBlock = v.ownBlock ∧ w.grownBy w' v.ownBlock) ∨ (v'.ownBlock = some w.heap.size ∧ w.grownBy w' none))
    (live' : Tag → Option (E × TypeId × Ty))
    (hold : v = .slice none 0 0 ∨ ∃ g x, σ.live g = some x ∧ G.τ g = v ∧ live' g = none ∧ ∀ b, v.ownBlock = some b → (∀ o, G.S b o ↔ Tag.ex (p, q) = false ∧ o < xs.length) ∧ ∀ o u, xs[o]? = some u → w.cell? ⟨b, o, none⟩ = some u)
    (he : e2.lt C.N = true) (hden : den C.ρ e2 = .list (l ++ l2)) (hhas : Has (.list t) (den C.ρ e2))
    (hlive : ∀ g x, live' g = some x → (g ≠ (p, q) ∧ σ.live g = some x) ∨ (g = (p, q) ∧ x = (e2, T, t)))
    (hfrn : S0.fr → Tag.ex (p, q) = false ∧ (v = .slice none 0 0 → ∀ u ∈ xs, ValIn (FrB (NewB w0 S0) w G.S) u) ∧ ∀ u ∈ news, ValIn (FrB (NewB w0 S0) w G.S) u) (hnw : ¬ S0.wz) :
    ∃ G', Later C w G (C.add p) w' G' ∧ SimM w0 S0 (C.add p) G' { σ with live := live' } w' ∧ G'.τ (p, q) = v' := by
  have hle := h.base_le
  have hlenx : (xs ++ news).length = (n + m) * t.cells.length := hown.1
  -- whatever of the old readings stands: it still stands
  have hcell : ∀ b o, G.S b o → w'.cell? ⟨b, o, none⟩ = w.cell? ⟨b, o, none⟩ := by
    intro b o hs
    have hbl := h.footlt b o hs
    rcases hcase with ⟨h1, h2⟩ | ⟨h1, h2⟩
    · by_cases hbv : some b = v.ownBlock
      · rcases hold with hv | ⟨g, x, hg, hgv, _, hfoot⟩
        · rw [hv] at hbv; cases hbv
        · obtain ⟨hf, hc⟩ := hfoot b hbv.symm
          have ho := ((hf o).1 hs).2
          have hxo : xs[o]? = some xs[o] := List.getElem?_eq_getElem ho
          have h3 := hown.cells (g := b) (h1.trans hbv.symm) o xs[o] (by rw [List.getElem?_append_left ho]; exact hxo)
          rw [addr_add, Nat.zero_add] at h3
          rw [h3, hc o _ hxo]
      · exact World.cell?_of_block (h2.block b hbl hbv)
    · exact World.cell?_of_block (h2.block b hbl (by simp))
  -- a block that is neither is as it was
  have hblk : ∀ b, b < w.heap.size → v.ownBlock ≠ some b → w'.heap[b]? = w.heap[b]? := by
    intro b hb hne
    rcases hcase with ⟨_, h2⟩ | ⟨_, h2⟩
    · exact h2.block b hb (fun e => hne e.symm)
    · exact h2.block b hb (by simp)
  have hvb : ∀ b, v.ownBlock = some b → NewB w0 S0 b ∧ b < w.heap.size := by
    intro b hb
    rcases hold with hv | ⟨g, x, hg, hgv, _, _⟩
    · rw [hv] at hb; cases hb
    · rw [← hgv] at hb; exact ⟨h.ownnew g x b hg hb, ((h.own g x.1 x.2.1 x.2.2 hg).lt_heap b hb).2⟩
  have hv'n : ∀ b, v'.ownBlock = some b → NewB w0 S0 b := by
    intro b hb
    rcases hcase with ⟨h1, _⟩ | ⟨h1, _⟩
    · exact (hvb b (h1 ▸ hb)).1
    · rw [h1] at hb; injection hb with hb; exact .inl (by omega)
  have hv'b : ∀ b, v'.ownBlock = some b → (v.ownBlock = some b ∨ b = w.heap.size) := by
    intro b hb
    rcases hcase with ⟨h1, _⟩ | ⟨h1, _⟩
    · exact .inl (h1 ▸ hb)
    · rw [h1] at hb; injection hb with hb; exact .inr hb.symm
  have hsize : w.heap.size ≤ w'.heap.size := by rcases hcase with ⟨_, h2⟩ | ⟨_, h2⟩ <;> exact h2.size
  let G' : Gh := { S := fun b o => G.S b o ∨ (Tag.ex (p, q) = false ∧ v'.ownBlock = some b ∧ o < (xs ++ news).length), β := G.β, τ := fun g => if g.1 = p then v' else G.τ g }
  have hτ : ∀ g : Tag, C.M g.1 → (if g.1 = p then v' else G.τ g) = G.τ g := fun g hg => if_neg (fun e => hp (by rw [← e]; exact hg))
  have hlat : Later C w G (C.add p) w' G' := ⟨fun _ h => ⟨rfl, h⟩, fun _ h => .inl h, fun _ _ h => .inl h, hcell, fun _ _ => rfl, hτ⟩
  refine ⟨G', hlat, ?_, if_pos rfl⟩
  refine ⟨?_, fun b o hs => .inl (h.foot0 b o hs), h.keep_later hlat, h.pin_later hlat, h.pinmu, ?_, ?_, fun id x hx => .inl (h.boxM id x hx), ?_, h.inj, ?_, ?_, ?_, ?_, fun hf g => ?_, fun h => absurd h hnw⟩
  rotate_right
  · obtain ⟨hq, hnil, hnews⟩ := hfrn hf
    · have hxsv : ∀ (o : Nat) u, xs[o]? = some u → ValIn (FrB (NewB w0 S0) w G.S) u := by
        intro o u hu
        have hol : o < xs.length := (List.getElem?_eq_some_iff.1 hu).1
        rcases hold with hv | ⟨g1, x1, hg1, hgv, _, hfoot⟩
        · exact hnil hv u (List.mem_of_getElem? hu)
        · have hok1 := h.own g1 x1.1 x1.2.1 x1.2.2 hg1
          obtain ⟨xs0, l0, _, hown0, hS0, _⟩ := hok1.own
          rcases hown0.2 with ⟨hn, _⟩ | ⟨b1, cap1, cur1, hv1, hbb, _⟩
          · exact hnil (hgv ▸ hn) u (List.mem_of_getElem? hu)
          · have hob1 : v.ownBlock = some b1 := by rw [← hgv, hv1]; rfl
            obtain ⟨hf1, hc1⟩ := hfoot b1 hob1
            have hS1 : G.S b1 o := (hf1 o).2 ⟨hq, hol⟩
            have h3 := (hS0 b1 (by rw [hv1]; rfl) o).1 hS1
            have h4 := h.fresh hf g1 _ _ _ hv1
            rw [hv1] at h4
            rcases h4 with h4 | ⟨b2, o2, h5, h6⟩
            · have h7 : xs0.length = l0.length * _ := hown0.1
              rw [h4, Nat.zero_mul] at h7
              omega
            · simp only [Option.some.injEq, Addr.mk.injEq] at h5
              obtain ⟨rfl, _⟩ := h5
              exact (FrB.set _ _ _ b1 h6).2.2.2 o u hS1 (hc1 o u hu)
      have hX : FrSet (NewB w0 S0) w' G'.S (fun b => FrB (NewB w0 S0) w G.S b ∨ (v'.ownBlock = some b ∧ 0 < (xs ++ news).length)) := by
        intro b hb
        by_cases hvb' : v'.ownBlock = some b
        · have hpos : 0 < (xs ++ news).length ∨ FrB (NewB w0 S0) w G.S b := hb.elim .inr (fun h => .inl h.2)
          have hpos2 : ∃ o, G'.S b o := by
            rcases hpos with h1 | h1
            · exact ⟨0, .inr ⟨hq, hvb', h1⟩⟩
            · obtain ⟨o, ho⟩ := (FrB.set _ _ _ b h1).2.1
              exact ⟨o, .inl ho⟩
          have hcz : ∃ cur T, w'.heap[b]? = some (.cells cur T (0, 0)) := by
            rcases hown.2 with ⟨hv, _⟩ | ⟨b2, cap, cur, hv, _, hg2, _⟩
            · rw [hv] at hvb'; cases hvb'
            · rw [hv] at hvb'
              simp only [Value.ownBlock, Option.some.injEq] at hvb'
              subst hvb'
              exact ⟨_, _, hg2⟩
          refine ⟨hv'n b hvb', hpos2, hcz, fun o u hs hu => ?_⟩
          have main : o < (xs ++ news).length → ValIn (fun b => FrB (NewB w0 S0) w G.S b ∨ (v'.ownBlock = some b ∧ 0 < (xs ++ news).length)) u := by
            intro ho
            have h3 := hown.cells (g := b) hvb' o (xs ++ news)[o] (List.getElem?_eq_getElem ho)
            rw [addr_add, Nat.zero_add, hu] at h3
            injection h3 with h3
            have h4 : (xs ++ news)[o]? = some u := by rw [h3]; exact List.getElem?_eq_getElem ho
            by_cases hox : o < xs.length
            · rw [List.getElem?_append_left hox] at h4
              exact (hxsv o u h4).mono fun b hb => .inl hb
            · rw [List.getElem?_append_right (by omega)] at h4
              exact (hnews u (List.mem_of_getElem? h4)).mono fun b hb => .inl hb
          rcases hs with hs | ⟨_, _, hs⟩
          · rcases hv'b b hvb' with h6 | h6
            · rcases hold with hv | ⟨g', x', hg', hgv, hdead, hfoot⟩
              · rw [hv] at h6; cases h6
              · have := ((hfoot b h6).1 o).1 hs
                exact main (by rw [List.length_append]; omega)
            · have := h.footlt b o hs; omega
          · exact main hs
        · rcases hb with hb | ⟨hb, _⟩
          · obtain ⟨h1, ⟨o1, h2⟩, ⟨cur0, T0, h4⟩, h3⟩ := FrB.set _ _ _ b hb
            have hsame : w'.heap[b]? = w.heap[b]? := by
              rcases hcase with ⟨h5, h6⟩ | ⟨_, h6⟩
              · exact h6.block b (h.footlt b o1 h2) (fun e => hvb' (h5.trans e.symm))
              · exact h6.block b (h.footlt b o1 h2) (by simp)
            refine ⟨h1, ⟨o1, .inl h2⟩, ⟨cur0, T0, hsame.trans h4⟩, fun o u hs hu => ?_⟩
            rcases hs with hs | ⟨_, hs, _⟩
            · exact (h3 o u hs (by rw [← hcell b o hs]; exact hu)).mono fun b hb => .inl hb
            · exact absurd hs hvb'
          · exact absurd hb hvb'
      show FrV (NewB w0 S0) w' G'.S (if g.1 = p then v' else G.τ g)
      split
      · intro a0 n0 cap0 hv0
        rcases hown.2 with ⟨hv, _⟩ | ⟨b, cap, cur, hv, _⟩
        · rw [hv]; exact .inl rfl
        · rw [hv]
          by_cases h0 : n + m = 0
          · exact .inl h0
          · refine .inr ⟨b, 0, rfl, _, hX, .inr ⟨by rw [hv]; rfl, ?_⟩⟩
            rw [hlenx]
            exact Nat.mul_pos (by omega) hsz
      · exact fun a0 n0 cap0 hv0 => (h.fresh hf g a0 n0 cap0 hv0).mono fun b hb => ⟨_, hX, .inl hb⟩
  · rcases hcase with ⟨_, h2⟩ | ⟨_, h2⟩
    · refine ⟨h2.os.trans h.below.os, h2.tape.trans h.below.tape, h2.output.trans h.below.output, Nat.le_trans h.below.size h2.size, fun k hk hm => (h2.block k (by omega) (fun e => ?_)).trans (h.below.block k hk hm)⟩
      rcases (hvb k e.symm).1 with h3 | h3
      · omega
      · exact hm h3
    · exact h.below.trans ⟨h2.os, h2.tape, h2.output, h2.size, fun k hk _ => h2.block k hk (by simp)⟩
  · rintro b o (hs | ⟨_, hb, _⟩)
    · have := h.footlt b o hs; omega
    · exact (hown.lt b hb).2
  · rintro b o (hs | ⟨_, hb, _⟩)
    · exact h.footnew b o hs
    · exact .inr (hv'n b hb)
  · intro id ro cs hx'
    obtain ⟨h1, h2, ⟨vs, T', h3, h4⟩, h5⟩ := h.box id ro cs hx'
    have hlt := h.box_lt hx'
    have hne : ∀ b, v.ownBlock = some b → b ≠ G.β id := by
      intro b hb
      rcases hold with hv | ⟨g, x, hg, hgv, _, _⟩
      · rw [hv] at hb; cases hb
      · rw [← hgv] at hb; exact h.ownbox g id x _ b hg hx' hb
    refine ⟨h1, h2, ⟨vs, T', (hblk _ hlt (fun e => hne _ e rfl)).trans h3, h4.later hlat⟩, ?_⟩
    cases ro with
    | true => simp only [if_true] at h5 ⊢; exact fun o ho => .inl (h5 o ho)
    | false =>
      simp only [Bool.false_eq_true, if_false] at h5 ⊢
      rintro o (ho | ⟨_, hb, _⟩)
      · exact h5 o ho
      · rcases hv'b _ hb with h6 | h6
        · exact hne _ h6 rfl
        · have h7 : G.β id = w.heap.size := h6
          omega
  · intro g e T' t' hx'
    rcases hlive g _ hx' with ⟨h1, h2⟩ | ⟨h1, h2⟩
    · have ho := h.own g e T' t' h2
      have hgne : ∀ b, (G.τ g).ownBlock = some b → v.ownBlock ≠ some b := by
        intro b hb hvb'
        rcases hold with hv | ⟨g', x, hg', hgv, hdead, _⟩
        · rw [hv] at hvb'; cases hvb'
        · rw [← hgv] at hvb'
          have := h.ownne g g' _ x b h2 hg' hb hvb'
          have hx2 : live' g = some (e, T', t') := hx'
          rw [this, hdead] at hx2; cases hx2
      refine ho.later hlat (fun b hb => hblk b (ho.lt_heap b hb).2 (hgne b hb)) (fun b hb o hs => ?_)
      rcases hs with hs | ⟨_, hs, _⟩
      · exact hs
      · rcases hv'b b hs with h6 | h6
        · exact absurd h6 (hgne b hb)
        · have := (ho.lt_heap b hb).2; omega
    · subst h1
      simp only [Prod.mk.injEq] at h2
      obtain ⟨rfl, rfl, rfl⟩ := h2
      refine ⟨.inr rfl, he, hhas, xs ++ news, l ++ l2, hden, ?_, ?_, ?_⟩
      · show w'.ownsRow 0 T' t'.cells.length (if p = p then v' else _) _ _
        rw [if_pos rfl, List.length_append, hln, hlm]; exact hown
      · intro b hb o
        have hb' : v'.ownBlock = some b := by simpa [G'] using hb
        constructor
        · rintro (hs | ⟨hq, _, hs⟩)
          · rcases hv'b b hb' with h6 | h6
            · rcases hold with hv | ⟨g', x, hg', hgv, hdead, hfoot⟩
              · rw [hv] at h6; cases h6
              · have := ((hfoot b h6).1 o).1 hs
                rw [List.length_append]; exact ⟨this.1, by omega⟩
            · have := h.footlt b o hs; omega
          · exact ⟨hq, hs⟩
        · intro ho; exact .inr ⟨ho.1, hb', ho.2⟩
      · intro i d j u c h1 h2 h3
        by_cases hi : i < l.length
        · rw [List.getElem?_append_left hi] at h1
          have hj : j < d.cells.length := (List.getElem?_eq_some_iff.1 h2).1
          have hw := hxw d (List.mem_of_getElem? h1)
          have hlt : i * t'.cells.length + j < xs.length := by
            rw [hx, ← hln]
            have : (i + 1) * t'.cells.length ≤ l.length * t'.cells.length := Nat.mul_le_mul_right _ hi
            rw [Nat.add_mul] at this
            omega
          rw [List.getElem?_append_left hlt] at h3
          exact (hxr i d j u c h1 h2 h3).keep hlat.S hlat.cell
        · rw [List.getElem?_append_right (by omega)] at h1
          have hge : xs.length ≤ i * t'.cells.length + j := by
            rw [hx, ← hln]
            exact Nat.le_trans (Nat.mul_le_mul_right _ (by omega)) (Nat.le_add_right _ _)
          rw [List.getElem?_append_right hge] at h3
          refine (hnr (i - l.length) d j u c h1 h2 ?_).keep hlat.S hlat.cell
          rw [← h3, hx, ← hln, Nat.sub_mul]
          congr 1
          have : l.length * t'.cells.length ≤ i * t'.cells.length := Nat.mul_le_mul_right _ (by omega)
          omega
  · intro g x b hx' hgb
    rcases hlive g _ hx' with ⟨h1, h2⟩ | ⟨h1, h2⟩
    · have h3 : g.1 ≠ p := fun hgp => hp (hgp ▸ (h.own g x.1 x.2.1 x.2.2 h2).m)
      simp only [G', if_neg h3] at hgb
      exact h.ownnew g x b h2 hgb
    · subst h1
      simp only [G', if_true] at hgb
      exact hv'n b hgb
  · intro g g' x y b hx' hy' hgb hgb'
    have key : ∀ g x, g.1 ≠ p ∨ g ≠ (p, q) → live' g = some x → σ.live g = some x := by
      intro g x hne hl
      rcases hlive g _ hl with ⟨_, h2⟩ | ⟨h1, _⟩
      · exact h2
      · subst h1; rcases hne with hne | hne <;> exact absurd rfl hne
    have newb : ∀ g x, g ≠ (p, q) → σ.live g = some x → live' g = some x → g.1 ≠ p := by
      intro g x _ hs _ hgp
      exact hp (hgp ▸ (h.own g x.1 x.2.1 x.2.2 hs).m)
    have cross : ∀ g x, g ≠ (p, q) → live' g = some x → (G.τ g).ownBlock = some b → v'.ownBlock = some b → False := by
      intro g x hne hl hb hb'
      have hs := key g x (.inr hne) hl
      have ho := h.own g x.1 x.2.1 x.2.2 hs
      rcases hv'b b hb' with h6 | h6
      · rcases hold with hv | ⟨g', x', hg', hgv, hdead, _⟩
        · rw [hv] at h6; cases h6
        · rw [← hgv] at h6
          have := h.ownne g g' _ x' b hs hg' hb h6
          rw [this, hdead] at hl; cases hl
      · have := (ho.lt_heap b hb).2; omega
    by_cases h1 : g = (p, q) <;> by_cases h2 : g' = (p, q)
    · rw [h1, h2]
    · subst h1
      have h3 := newb g' y h2 (key g' y (.inr h2) hy') hy'
      simp only [G', if_true, if_neg h3] at hgb hgb'
      exact (cross g' y h2 hy' hgb' hgb).elim
    · subst h2
      have h3 := newb g x h1 (key g x (.inr h1) hx') hx'
      simp only [G', if_true, if_neg h3] at hgb hgb'
      exact (cross g x h1 hx' hgb hgb').elim
    · have h3 := newb g x h1 (key g x (.inr h1) hx') hx'
      have h4 := newb g' y h2 (key g' y (.inr h2) hy') hy'
      simp only [G', if_neg h3, if_neg h4] at hgb hgb'
      exact h.ownne g g' x y b (key g x (.inr h1) hx') (key g' y (.inr h2) hy') hgb hgb'
  · intro g id x y b hx' hy' hgb
    rcases hlive g _ hx' with ⟨h1, h2⟩ | ⟨h1, h2⟩
    · have h3 : g.1 ≠ p := fun hgp => hp (hgp ▸ (h.own g x.1 x.2.1 x.2.2 h2).m)
      simp only [G', if_neg h3] at hgb
      exact h.ownbox g id x y b h2 hy' hgb
    · subst h1
      simp only [G', if_true] at hgb
      rcases hv'b b hgb with h6 | h6
      · rcases hold with hv | ⟨g', x', hg', hgv, _, _⟩
        · rw [hv] at h6; cases h6
        · rw [← hgv] at h6; exact h.ownbox g' id x' _ b hg' hy' h6
      · have h7 := h.box_lt hy'
        intro he
        have h8 : b = G.β id := he
        omega

end
end Go.Eng
