/-
  A result that is a slice of its own kind, taken as plain data.
-/
import Derived.Test.YtippnelhkdjknaaCZ
namespace Go.Proofs.Ytippnelhkdjknaa
open Go Go.RowKit Go.Eng Go.Proofs

theorem rep_ownD {w : World} {S : Foot} {T : TypeId} {t : Ty} {v : Value} {d : D} (h : OwnD true w 0 S T t v d) :
    ∃ S' : Foot, (∀ b o, S b o → S' b o) ∧ (∀ b o, S' b o → S b o ∨ (v.ownBlock = some b ∧ b < w.heap.size)) ∧ Rep w S' v d ∧ Has (.list t) d := by
  obtain ⟨xs, l, rfl, hown, hS, hr⟩ := h.own
  have hlt := hown.lt
  refine ⟨fun b o => S b o ∨ (v.ownBlock = some b ∧ o < xs.length), fun _ _ h => .inl h, fun b o hb => hb.imp id fun hb => ⟨hb.1, (hlt b hb.1).2⟩, ?_, h.has⟩
  obtain ⟨hl, hh⟩ := hown
  rcases hh with ⟨hv, hn⟩ | ⟨b, cap, cur, hv, hb, hgb, hnc, hcm, hcs, htake⟩
  · have : l = [] := List.eq_nil_of_length_eq_zero hn
    subst this
    rw [hv]; exact .nil none 0
  · have hhas := h.has
    obtain ⟨l', hl', _, hx⟩ := has_list.1 hhas
    injection hl' with hl'; subst hl'
    by_cases hne : l = []
    · subst hne; rw [hv]; exact .nil _ cap
    · have hob : v.ownBlock = some b := by rw [hv]; rfl
      rw [hv] at hob ⊢
      refine .list b 0 cap t.cells.length xs l h.sz hne hnc hl (fun i hi => ?_) (fun i v hi => ?_) (fun i d hd' => ?_) (fun i d j v c h1 h2 h3 => (hr i d j v c h1 h2 h3).keep (fun _ _ h => .inl h) (fun _ _ _ => rfl))
      · rw [Nat.zero_add]; exact .inr ⟨hob, hi⟩
      · rw [Nat.zero_add, cell_of_row w b i cur T (0, 0) hgb]
        rw [← htake, List.getElem?_take] at hi
        split at hi
        · simpa using hi
        · cases hi
      · exact (has_cells (hx d (List.mem_of_getElem? hd'))).1

theorem plain_of_ex {P : Program} {f : Nat} {ps : List Ty} {t0 t : Ty} {T : TypeId} {j : Nat} {Pre : List D → Prop} {Φ : List D → D}
    (h : PureFn P f ⟨ps, [(false, [(t0, none)]), (false, [(t, some (j, T))])], none⟩ Pre Φ) (hj : exN j = true) :
    PureFn P f ⟨ps, [(false, [(t0, none)]), (false, [(.list t, none)])], none⟩ Pre Φ where
  enter := h.enter
  ocalls ob hob := by cases hob
  pcalls ob hob := by cases hob
  calls _ w S vs ds h1 h2 h3 h4 h5 := by
    refine (h.calls rfl w S vs ds h1 h2 h3 h4 h5).mono ?_
    rintro e w' ⟨v, S', τ, rfl, hb, hSS, hlt, hnew, hres, hown, hne, hfr⟩
    rcases hres with ⟨c, hc, _⟩ | ⟨hn, us, dd, rfl, hd, hl1, hl2, hcomp⟩
    · simp at hc
    obtain ⟨u0, u1, rfl⟩ : ∃ x y, us = [x, y] := by
      match us, hl1 with
      | [x, y], _ => exact ⟨x, y, rfl⟩
    obtain ⟨d0, d1, rfl⟩ : ∃ x y, dd = [x, y] := by
      match dd, hl2 with
      | [x, y], _ => exact ⟨x, y, rfl⟩
    have k0 := hcomp 0 _ u0 d0 rfl rfl rfl
    have k1 := hcomp 1 _ u1 d1 rfl rfl rfl
    unfold CompOk at k0 k1
    simp only [Bool.false_eq_true, if_false] at k0 k1
    obtain ⟨y0, e0, k0⟩ := k0
    obtain ⟨y1, e1, k1⟩ := k1
    injection e0 with e0 _
    injection e1 with e1 _
    subst e0 e1
    obtain ⟨hv1, k1⟩ := k1
    rw [hj] at k1
    obtain ⟨S2, s1, s2, s3, s4⟩ := rep_ownD k1
    have hob : ∀ b, (τ j).ownBlock = some b → w.heap.size ≤ b := fun b hb => hown j b (by simp [ownIdx]) hb
    refine ⟨_, S2, τ, rfl, hb, fun b o hbo => s1 b o (hSS b o hbo), fun b o hbo => (s2 b o hbo).elim (hlt b o) (fun h => h.2), fun b o hbo => (s2 b o hbo).elim (hnew b o) (fun h => .inr (hob b h.1)), .inr ⟨by simp, [u0, u1], [d0, d1], rfl, hd, rfl, rfl, ?_⟩, ?_, ?_, ?_⟩
    · intro i x u y hx hu hy
      match i, hx, hu, hy with
      | 0, hx, hu, hy =>
        simp at hx hu hy; subst hx hu hy
        unfold CompOk
        simp only [Bool.false_eq_true, if_false]
        exact ⟨_, rfl, k0.1.keep s1 (fun _ _ _ => rfl), k0.2⟩
      | 1, hx, hu, hy =>
        simp at hx hu hy; subst hx hu hy
        unfold CompOk
        simp only [Bool.false_eq_true, if_false]
        exact ⟨_, rfl, by rw [hv1]; exact s3, s4⟩
      | i + 2, hx, hu, hy => simp at hx
    · intro j b hj; simp [ownIdx] at hj
    · intro j k b hj; simp [ownIdx] at hj
    · intro j hj; simp [ownIdx] at hj
end Go.Proofs.Ytippnelhkdjknaa
