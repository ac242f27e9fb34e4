/-
  The maps' keys.
-/
import Derived.Test.YtippnelhkdjknaaKC
import Derived.DeepKeys4
namespace Go.Proofs.Ytippnelhkdjknaa
open Go Go.RowKit Go.Eng Go.Proofs

def kl1 (q q' : IntKind) (n : Int) : Option (List Lit) := if q' = q ∧ (Lit.int q n).wf = true then some [.int q n] else none
theorem slotLits (g i : Int) : Try.prog.keyLits (Try.prog.types.size + 1) 36 [.int .i64 g, .int .i64 i] = ((kl1 .i64 .i64 g).bind fun a => (kl1 .i64 .i64 i).bind fun b => some [a, b]).map List.flatten := by kernel_rfl
theorem wf64 {n : Int} (h : in64 n) : (Lit.int .i64 n).wf = true := by
  unfold Lit.wf
  simp only [Bool.and_eq_true, decide_eq_true_eq]
  exact h
theorem zero4 (w : World) : (zeroValue 4).run Try.prog w = .ok (.bool false) w := by
  have h : ((Try.prog.info? 4).bind (·.zero)) = some (.bool false) := by kernel_rfl
  cases hi : Try.prog.info? 4 with
  | none => rw [hi] at h; cases h
  | some it =>
    rw [hi] at h
    have hz : it.zero = some (.bool false) := h
    simp [zeroValue, typeInfo, hi, hz]
theorem key59 : KeyOk Try.prog 59 (.int .i64) where
  ex := ⟨3, 4, by kernel_rfl, by kernel_rfl, zero4, Maps.int_keyed (q := .i64) (by kernel_rfl), fun w S v d hr hd => by
    obtain ⟨n, rfl, hn⟩ := has_int.1 hd
    obtain rfl := hr.inv_int
    exact ⟨_, Maps.keyOf_int_mk (by kernel_rfl) (wf64 hn)⟩⟩
  inj w w' S S' v v' d d' hr hr' hd hd' hq := by
    obtain ⟨n, rfl, hn⟩ := has_int.1 hd
    obtain ⟨m, rfl, hm⟩ := has_int.1 hd'
    obtain rfl := hr.inv_int
    obtain rfl := hr'.inv_int
    simp [D.keq, D.cells, D.toI] at hq
    rw [hq]
  dist w w' S S' v d d' hr hr' hd hd' := by
    obtain ⟨n, rfl, hn⟩ := has_int.1 hd
    obtain ⟨m, rfl, hm⟩ := has_int.1 hd'
    obtain rfl := hr.inv_int
    have := hr'.inv_int
    injection this with _ this
    subst this
    simp [D.keq]
theorem slot_val {w : World} {S : Foot} {v : Value} {p : Int × Int} (h : Rep w S v (slotE p)) : v = .agg [Value.int .i64 p.1, .int .i64 p.2].toArray := by
  obtain ⟨cs, rfl, hl, hc⟩ := Rep.inv_agg h
  match cs, hl with
  | [a, b], _ =>
    have h1 := hc 0 a _ rfl rfl
    have h2 := hc 1 b _ rfl rfl
    rw [h1.inv_int, h2.inv_int]
theorem key55 : KeyOk Try.prog 55 slotT where
  ex := ⟨36, 4, by kernel_rfl, by kernel_rfl, zero4, Maps.Keyed.of_law (deep_law_laid (m := 5) (by kernel_rfl) (by omega) (by decide +kernel) (by kernel_rfl) (by kernel_rfl)), fun w S v d hr hd => by
    obtain ⟨p, rfl, h1, h2⟩ := slot_cases hd
    obtain rfl := slot_val hr
    have hu : ∃ fs, Try.prog.underlying 36 = some (.struct fs) := ⟨_, rfl⟩
    obtain ⟨fs, hu⟩ := hu
    unfold keyOf
    rw [hu]
    have hk : Try.prog.keyType 36 = true := by kernel_rfl
    have hsz : Try.prog.cellsOf 36 = 2 := by kernel_rfl
    have hf : (Value.agg [Value.int .i64 p.1, .int .i64 p.2].toArray).formed Try.prog 36 = true := by
      simp [Value.formed, hu, hsz]
    simp only [hk, hf, Bool.and_self, if_true]
    have e1 : kl1 .i64 .i64 p.1 = some [.int .i64 p.1] := by unfold kl1; rw [if_pos ⟨rfl, wf64 h1⟩]
    have e2 : kl1 .i64 .i64 p.2 = some [.int .i64 p.2] := by unfold kl1; rw [if_pos ⟨rfl, wf64 h2⟩]
    have e3 : Try.prog.keyLits (Try.prog.types.size + 1) 36 (Value.agg [Value.int .i64 p.1, .int .i64 p.2].toArray).cells.toList = some [.int .i64 p.1, .int .i64 p.2] := by
      show Try.prog.keyLits (Try.prog.types.size + 1) 36 [.int .i64 p.1, .int .i64 p.2] = _
      rw [slotLits, e1, e2]
      rfl
    exact ⟨_, by rw [e3]; rfl⟩⟩
  inj w w' S S' v v' d d' hr hr' hd hd' hq := by
    obtain ⟨p, rfl, _⟩ := slot_cases hd
    obtain ⟨p', rfl, _⟩ := slot_cases hd'
    rw [slot_val hr, slot_val hr']
    simp [D.keq, slotE, D.cells, D.toI] at hq
    rw [hq.1, hq.2]
  dist w w' S S' v d d' hr hr' hd hd' := by
    obtain ⟨p, rfl, _⟩ := slot_cases hd
    obtain ⟨p', rfl, _⟩ := slot_cases hd'
    have h := (slot_val hr).symm.trans (slot_val hr')
    simp at h
    simp [D.keq, slotE, D.cells, D.toI, h.1, h.2]
end Go.Proofs.Ytippnelhkdjknaa
