/-
  One operation of a region, symbolically: that it does what its effect says.
-/
import Derived.Test.YtjpkeliliahjoaaEngJ
namespace Go.Eng
open Go Go.RowKit

section
variable {α β : Type} [DecidableEq α]
theorem updL_nil (h : α → β) : updL h [] = h := by funext x; rfl
theorem updL_cons (h : α → β) (k : α) (v : β) (l : List (α × β)) : updL h ((k, v) :: l) = fun x => if x = k then v else updL h l x := by
  funext x
  simp only [updL, lk]
  split <;> rename_i h1
  · by_cases hx : x = k
    · rw [if_pos hx] at h1; injection h1 with h1; rw [if_pos hx, h1]
    · rw [if_neg hx] at h1; rw [if_neg hx, h1]
  · by_cases hx : x = k
    · rw [if_pos hx] at h1; cases h1
    · rw [if_neg hx] at h1; rw [if_neg hx, h1]
theorem updL_one (h : Nat → β) (k : Nat) (v : β) : updL h [(k, v)] = upd h k v := by
  rw [updL_cons]; funext x; simp only [updL_nil, upd]
theorem lk_mem : ∀ {l : List (α × β)} {x : α} {v : β}, lk l x = some v → (x, v) ∈ l
  | [], _, _, h => by cases h
  | (k, u) :: r, x, v, h => by
    simp only [lk] at h
    split at h
    · rename_i hx; injection h with h; subst h; subst hx; simp
    · exact List.mem_cons_of_mem _ (lk_mem h)
end

section
variable {P : Program} {C : Cx} {w w0 : World} {S0 : Base} {G : Gh} {σ : St} {a : Act} {o : Oper} {pc : Cond} {s : SV} {is : List Item} {Φ : Nat → List D → D} {Pre : Nat → List D → Prop} {n p : Nat}

theorem SimM.congr {σ' : St} (h : SimM w0 S0 C G σ w) (h1 : σ'.hp = σ.hp) (h2 : σ'.live = σ.live) : SimM w0 S0 C G σ' w := by
  obtain ⟨tm, hp, live⟩ := σ
  obtain ⟨tm', hp', live'⟩ := σ'
  simp only at h1 h2
  subst h1; subst h2
  exact ⟨h.below, h.foot0, h.keep, h.pin, h.pinmu, h.footlt, h.footnew, h.boxM, h.box, h.inj, h.own, h.ownnew, h.ownne, h.ownbox, h.fresh, h.wz⟩

theorem opPlain_ok {rd : List Nat} (hm : SimM w0 S0 C G σ w) (ht : SimT C w G σ.tm a) (hpc : condB C.ρ pc = true) (h : opPlain P σ pc o = some ((s, is), rd)) (hit : ∀ it ∈ is, ItemOk C Φ Pre it) : Gives P C w G a o s := by
  unfold opPlain at h
  have strip : ∀ {x : Option Pl}, x.map (·, ([] : List Nat)) = some ((s, is), rd) → x = some (s, is) := by
    intro x hx
    simp only [Option.map_eq_some_iff, Prod.mk.injEq] at hx
    obtain ⟨y, h1, h2, _⟩ := hx
    rw [h1, h2]
  split at h
  · exact opLoad_ok hm ht hpc h
  · exact opMove_ok ht hpc (strip h)
  · exact opMove_ok ht hpc (strip h)
  · exact opPick_ok ht hpc (strip h)
  · exact opBin2_ok ht hpc (strip h) hit
  · exact opUn_ok ht hpc (strip h)
  · exact opUn_ok ht hpc (strip h)
  · exact opExtract_ok ht hpc (strip h)
  · exact opFieldAddr_ok ht hpc (strip h)
  · exact opField_ok ht hpc (strip h)
  · exact opIndexAddr_ok ht hpc (strip h) hit
  · exact opNil_ok ht hpc (strip h) hit
  · exact opSlice_ok ht hpc (strip h) hit
  · exact opSlice3_ok ht hpc (strip h) hit
  · exact opBuild_ok ht hpc (strip h)
  · exact opLen_ok ht hpc (strip h)
  · exact opLen_ok ht hpc (strip h)
  · exact opLen_ok ht hpc (strip h)
  · cases h

def boolOf : Value → Option Bool
  | .bool b => some b
  | _ => none

theorem guardOf_ok {ops : Array Oper} (ht : SimT C w G σ.tm a) (h : guardOf ops σ o = some pc) : Region.wanted o (yielded ops a.tmps) = condB C.ρ pc ∧ ∀ x ∈ pc, x.1.lt C.N = true := by
  unfold guardOf at h
  unfold Region.wanted
  split at h
  · rename_i hg
    injection h with h; subst h
    rw [hg]; exact ⟨rfl, by simp⟩
  · rename_i j want hg
    rw [hg]
    split at h
    · rename_i t hj
      split at h
      · rename_i c e htm
        injection h with h; subst h
        obtain ⟨v, h1, h2, h0, h3⟩ := ht t c _ htm
        have hy : yielded ops a.tmps j = boolOf v := by
          unfold yielded; rw [hj]; simp only [Option.bind_some, h1]
          cases v <;> rfl
        refine ⟨?_, fun x hx => ?_⟩
        · show (yielded ops a.tmps j == some want) = condB C.ρ ((e, want) :: c)
          rw [hy]
          have hcons : condB C.ρ ((e, want) :: c) = (((den C.ρ e).toB == want) && condB C.ρ c) := rfl
          rw [hcons]
          by_cases hc : condB C.ρ c = true
          · rw [if_pos hc] at h3
            obtain ⟨_, k2, k3⟩ := h3
            obtain ⟨b, hb⟩ := has_bool.1 k3
            have hv := (hb ▸ k2).inv_bool
            rw [hv, hb, hc, Bool.and_true]
            show (some b == some want) = (b == want)
            cases b <;> cases want <;> rfl
          · rw [if_neg hc] at h3
            have : condB C.ρ c = false := by simpa using hc
            rw [this, Bool.and_false, h3]; rfl
        · rcases List.mem_cons.1 hx with rfl | hx
          · exact h0
          · exact h2 x hx
      · cases h
    · cases h

/-- The step is done: the operation runs, or is passed over. -/
def Stepped1 (P : Program) (n : Nat) (w0 : World) (S0 : Base) (C : Cx) (σ' : St) (p : Nat) (ops : Array Oper) (a : Act) (w : World) (o : Oper) : Prop :=
  ∀ (K : Act → World → Prop) (Q : Exit → Act → World → Prop), (∀ a' w' G', Sim n w0 S0 (C.add p) G' σ' a' w' → K a' w') →
    if Region.wanted o (yielded ops a.tmps) then o.wp P a w K Q else K (a.put o.dst undef) w

theorem Act.put_size (a : Act) (d : Option Nat) (v : Value) : (a.put d v).tmps.size = a.tmps.size := by
  cases d <;> simp [Act.put]
theorem Act.put_def (a : Act) (d : Option Nat) (v : Value) : (a.put d v).defers = a.defers := by
  cases d <;> rfl

/-- The frame behind a step: memory as the effect says, the slot set. -/
theorem Sim.step {e : Eff} {w' : World} {G' : Gh} {v : Value} (hs : Sim n w0 S0 C G σ a w) (hlat : Later C w G (C.add p) w' G') (hm : SimM w0 S0 (C.add p) G' (e.app σ) w')
    (hd : e.dst = o.dst) (hlt : e.ent.2.lt C.N = true) (hc : ∀ x ∈ e.ent.1, x.1.lt C.N = true) (hv : (∃ d, o.dst = some d) → if condB C.ρ e.ent.1 then RSV (C.add p) w' G' e.ent.2 v else v = undef)
    (hdst : ∀ d, o.dst = some d → d < n) : Sim n w0 S0 (C.add p) G' (e.app σ) (a.put o.dst v) w' := by
  refine ⟨hm, ?_, by rw [Act.put_size]; exact hs.sz, by rw [Act.put_def]; exact hs.defers⟩
  cases hdd : o.dst with
  | none =>
    have htm : (e.app σ).tm = σ.tm := by unfold Eff.app; rw [hd, hdd]
    rw [htm]; exact hs.t.later hlat
  | some d =>
    have htm : (e.app σ).tm = upd σ.tm d (some (e.ent.1, e.ent.2)) := by unfold Eff.app; rw [hd, hdd]
    rw [htm]
    exact (hs.t.later hlat).put (some d) v e.ent.1 e.ent.2 hc hlt (hv ⟨d, hdd⟩) (fun i hi => by rw [hs.sz]; exact hdst i (by rw [hdd]; exact hi))

theorem stepped_plain {ops : Array Oper} {rd : List Nat} (hs : Sim n w0 S0 C G σ a w) (hg : guardOf ops σ o = some pc) (h : opPlain P σ pc o = some ((s, is), rd)) (hlt : s.lt C.N = true)
    (hit : ∀ it ∈ is, ItemOk C Φ Pre it) (hdst : ∀ d, o.dst = some d → d < n) :
    Stepped1 P n w0 S0 C ((⟨o.dst, (pc, s), [], [], rd, is⟩ : Eff).app σ) p ops a w o := by
  intro K Q hK
  obtain ⟨hw, hc⟩ := guardOf_ok hs.t hg
  have hm : SimM w0 S0 (C.add p) G ((⟨o.dst, (pc, s), [], [], rd, is⟩ : Eff).app σ) w := (hs.m.addM p).congr (updL_nil _) (updL_nil _)
  have hlat := Later.addM C w G p
  rw [hw]
  cases hpc : condB C.ρ pc with
  | true =>
    obtain ⟨v, h1, h2⟩ := opPlain_ok hs.m hs.t hpc h hit
    simp only [if_true]
    unfold Oper.wp
    rw [h1]
    exact hK _ _ _ (hs.step (o := o) (e := ⟨o.dst, (pc, s), [], [], rd, is⟩) hlat hm rfl hlt hc (by intro _; simp only [hpc, if_true]; exact h2.later hlat) hdst)
  | false =>
    simp only [Bool.false_eq_true, if_false]
    exact hK _ _ _ (hs.step (o := o) (e := ⟨o.dst, (pc, s), [], [], rd, is⟩) hlat hm rfl hlt hc (by intro _; simp only [hpc, Bool.false_eq_true, if_false]) hdst)

theorem run_opNew {l : List SC} (ht : SimT C w G σ.tm a) (hpc : condB C.ρ pc = true) (h : opNew P σ pc o = some l) (hsc : l.all SC.scalar = true) :
    ∃ (vs : List Value) (T : TypeId), (execOp a.eval o).run P w = .ok (.value (.pointer (some ⟨w.heap.size, 0, none⟩))) (w.alloc (.cells vs.toArray T)) ∧ RSCs C w G l vs := by
  unfold opNew at h
  split at h
  · rename_i t ho
    split at h
    · rename_i ts z hts hz
      refine ⟨z.cells.toList, t, ?_, zeroSCs_ok h⟩
      cases hi : P.info? t with
      | none => simp [hi] at hz
      | some it =>
        simp [hi] at hz
        unfold execOp; simp only [ho, Instr.alloc]
        simp [zeroValue, typeInfo, hi, hz, newVar, newRow]
    · cases h
  · rename_i t x ho
    cases hg : getV P σ pc x t with
    | none => simp [hg] at h
    | some sv =>
      simp only [hg, Option.bind_some] at h
      obtain ⟨vs, hv, hr⟩ := asCells_ok h (getV_ok ht hpc hg) hsc
      refine ⟨vs, t, ?_, hr⟩
      unfold execOp; simp only [ho, Instr.box]
      simp [newVar, newRow, hv]
  · cases h

theorem stepped_new {ops : Array Oper} {l : List SC} (hs : Sim n w0 S0 C G σ a w) (hp : ¬ C.M p) (hg : guardOf ops σ o = some []) (h : opNew P σ [] o = some l) (hsc : l.all SC.scalar = true)
    (hdst : ∀ d, o.dst = some d → d < n) :
    Stepped1 P n w0 S0 C ((⟨o.dst, ([], .one (.adr p 0)), [(p, some (false, l))], [], [], []⟩ : Eff).app σ) p ops a w o := by
  intro K Q hK
  obtain ⟨hw, _⟩ := guardOf_ok hs.t hg
  rw [hw]
  simp only [condB, List.all_nil, if_true]
  obtain ⟨vs, T, h1, h2⟩ := run_opNew hs.t (pc := []) rfl h hsc
  unfold Oper.wp
  rw [h1]
  obtain ⟨hlat, hm⟩ := hs.m.alloc hp h2 hsc T
  exact hK _ _ _ (hs.step (o := o) (e := ⟨o.dst, ([], .one (.adr p 0)), [(p, some (false, l))], [], [], []⟩) hlat (hm.congr (updL_one _ _ _) (updL_nil _)) rfl rfl (by simp)
    (by intro _; simp only [condB, List.all_nil, if_true]; exact ⟨.inr rfl, by simp [upd]⟩) hdst)

theorem stepped_store {ops : Array Oper} {id : Nat} {l : List SC} (hs : Sim n w0 S0 C G σ a w) (hg : guardOf ops σ o = some []) (h : opStore P σ [] o = some (id, l)) (hsc : l.all SC.scalar = true) (hd : o.dst = none) :
    Stepped1 P n w0 S0 C ((⟨none, ([], .agg []), [(id, some (false, l))], [], [id], []⟩ : Eff).app σ) p ops a w o := by
  intro K Q hK
  obtain ⟨hw, _⟩ := guardOf_ok hs.t hg
  rw [hw]
  simp only [condB, List.all_nil, if_true]
  unfold opStore at h
  split at h
  · rename_i t x y ho
    split at h
    · rename_i id' off cs sz hx hy hsz
      split at h
      · rename_i old hid
        split at h
        · rename_i hcnd
          obtain ⟨hl, hle⟩ := hcnd
          injection h with h; simp only [Prod.mk.injEq] at h; obtain ⟨rfl, rfl⟩ := h
          obtain ⟨_, hsc0, ⟨vs, T, hg', hr⟩, _⟩ := hs.m.box _ _ _ hid
          have hxv := (getV_ok hs.t (pc := []) rfl hx).2
          cases hgy : getV P σ [] y t with
          | none => simp [hgy] at hy
          | some sv =>
            simp only [hgy, Option.bind_some] at hy
            have hsc1 : cs.all SC.scalar = true := by
              rw [List.all_append, List.all_append] at hsc
              simp only [Bool.and_eq_true] at hsc; exact hsc.1.2
            obtain ⟨us, hv, hru⟩ := asCells_ok hy (getV_ok hs.t (pc := []) rfl hgy) hsc1
            have hnew := hr.splice hru hle
            have hone : ∀ u ∈ us, u.oneCell' = true := by
              intro u hu
              obtain ⟨i, hi⟩ := List.getElem?_of_mem hu
              have hil : i < us.length := (List.getElem?_eq_some_iff.1 hi).1
              have hci : cs[i]? = some (cs[i]'(by rw [← hru.1]; exact hil)) := List.getElem?_eq_getElem _
              exact (hru.2 i _ u hci hi).oneCell (List.all_eq_true.1 hsc1 _ (List.mem_of_getElem? hci))
            have hst := run_storeCells_at P (G.β id') off T us 0 vs.toArray w hg' (by simp [hru.1, hr.1]; exact hle) hone
            simp only [Nat.add_zero] at hst
            have hrun : (execOp a.eval o).run P w = .ok .skip (w.setRow (G.β id') (vs.take off ++ us ++ vs.drop (off + us.length)).toArray) := by
              have h1 := run_sizeT (P := P) (w := w) hsz
              unfold execOp; simp only [ho, hxv, Instr.storeAt, Instr.sureAddr]
              simp [storeVar, h1, hv, hru.1, hl, hst]
            unfold Oper.wp
            rw [hrun]
            obtain ⟨hlat, hm⟩ := hs.m.setBox hid hnew hsc
            have hlat' := hlat.trans (Later.addM C _ G p)
            exact hK _ _ _ (hs.step (o := o) (e := ⟨none, ([], .agg []), [(id', some (false, old.take off ++ cs ++ old.drop (off + cs.length)))], [], [id'], []⟩) hlat' ((hm.addM p).congr (updL_one _ _ _) (updL_nil _)) hd.symm rfl (by simp)
              (v := undef) (by rintro ⟨d, hd'⟩; rw [hd] at hd'; cases hd') (by intro d hd'; rw [hd] at hd'; cases hd'))
        · cases h
      · cases h
    · cases h
  · cases h

end
end Go.Eng
