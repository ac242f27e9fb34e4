/-
  A call that makes something new, handed to a call that writes over it.
-/
import Derived.Test.YtjpkeliliahjoaaEngQc
namespace Go.Eng
open Go Go.RowKit

/-- A function's contract: it gives Φ of what its arguments read as, in new blocks alone; whatever was there stays as it was. -/
structure FreshFn (P : Program) (f : Nat) (params : List Ty) (res : Ty) (Pre : List D → Prop) (Φ : List D → D) : Prop where
  enter : ∀ (args : Array Value) (w : World), (callFunc f args).run P w = .ok (.enter f args) w
  calls : ∀ (w : World) (S : Foot) (vs : List Value) (ds : List D), (∀ b o, S b o → b < w.heap.size) → vs.length = ds.length → (∀ (i : Nat) v d, vs[i]? = some v → ds[i]? = some d → Rep w S v d) →
    HasL (.ofL params) ds → Pre ds →
    Calls P f vs.toArray w fun e w' => ∃ v F, e = .returned v ∧ Below w.heap.size w w' ∧ (∀ b o, F b o → w.heap.size ≤ b ∧ b < w'.heap.size ∧ ∃ cur T, w'.heap[b]? = some (.cells cur T (0, 0))) ∧ Rep w' F v (Φ ds) ∧ Has res (Φ ds)
/-- A function's contract: it may write over what it is handed; it gives something of its result's type. -/
structure WildFn (P : Program) (f : Nat) (params : List Ty) (res : Ty) : Prop where
  enter : ∀ (args : Array Value) (w : World), (callFunc f args).run P w = .ok (.enter f args) w
  calls : ∀ (w : World) (S : Foot) (vs : List Value) (ds : List D), (∀ b o, S b o → b < w.heap.size ∧ ∃ cur T, w.heap[b]? = some (.cells cur T (0, 0))) → vs.length = ds.length → (∀ (i : Nat) v d, vs[i]? = some v → ds[i]? = some d → Rep w S v d) →
    HasL (.ofL params) ds →
    Calls P f vs.toArray w fun e w' => ∃ v S' d, e = .returned v ∧ BelowX (fun b => ∃ o, S b o) w w' ∧ (∀ b o, S' b o → (∃ o', S b o') ∨ w.heap.size ≤ b) ∧
      (∀ b o, S' b o → b < w'.heap.size ∧ ∃ cur T, w'.heap[b]? = some (.cells cur T (0, 0))) ∧ Rep w' S' v d ∧ Has res d

structure CpOp where
  k1 : Nat
  args : E
  t1 : Nat
  t2 : Nat
  e2 : E
  ty2 : Ty
  k2 : Nat
  t3 : Nat
  res : Ty

abbrev FTbl := List (Nat × (List Ty × Ty))
def notTmp (t : Nat) : Operand → Bool
  | .tmp u => u != t
  | _ => true
def cpOp (P : Program) (fw wl : FTbl) (n : Nat) (σ : St) (ops : Array Oper) (c : Nat) : Option CpOp :=
  match ops[c]?, ops[c + 1]?, ops[c + 2]? with
  | some ⟨some t1, .call { callee := .value (.func k1), args, argTypes }, _, _, _, none⟩, some ⟨some t2, .move x, _, _, _, none⟩, some ⟨some t3, .call { callee := .value (.func k2), args := args2, .. }, _, _, _, none⟩ =>
    match args2.toList, argsE P σ [] args.toList argTypes.toList, getV P σ [] x 0, lk fw k1, lk wl k2 with
    | [.tmp u1, .tmp u2], some es, some (.one (.dat e2 ty2)), some (ps1, r1), some (ps2, r2) =>
      if u1 = t1 ∧ u2 = t2 ∧ t1 ≠ t2 ∧ t1 < n ∧ t2 < n ∧ t3 < n ∧ ty2.bare = true ∧ es.map (·.2) = ps1 ∧ ps2 = [r1, ty2] ∧ notTmp t1 x = true then some ⟨k1, .ofL (es.map (·.1)), t1, t2, e2, ty2, k2, t3, r2⟩ else none
    | _, _, _, _, _ => none
  | _, _, _ => none
def CpOp.after (x : CpOp) (σ : St) (q : Nat) : St :=
  ⟨fun t => if t = x.t3 then some ([], .one (.dat (.var q) x.res)) else if t = x.t2 then some ([], .one (.dat x.e2 x.ty2)) else if t = x.t1 then none else σ.tm t, σ.hp, σ.live⟩

section
variable {P : Program} {w w0 : World} {S0 : Base} {ρ : Nat → D} {p : Nat} {G : Gh} {σ : St} {a : Act} {n : Nat}
theorem wpOps_step {ops : Array Oper} {o : Oper} {i : Nat} {rest : List Nat} {Q : Exit → Act → World → Prop} (ho : ops[i]? = some o) (hg : o.guard = none) (h : o.wp P a w (wpOps P ops Q rest) Q) : wpOps P ops Q (i :: rest) a w := by
  simp only [wpOps, ho]
  rw [if_pos (by unfold Region.wanted; rw [hg])]
  exact .inl h
theorem cpOp_ok {fw wl : FTbl} {ops : Array Oper} {c : Nat} {x : CpOp} {Φ : Nat → List D → D} (h : cpOp P fw wl n σ ops c = some x) (hs : Sim n w0 S0 ⟨ρ, p, fun i => i < p⟩ G σ a w)
    (hfw : ∀ k y, lk fw k = some y → FreshFn P k y.1 y.2 (fun _ => True) (Φ k)) (hwl : ∀ k y, lk wl k = some y → WildFn P k y.1 y.2) (hnf : ¬ S0.fr) (hnw : ¬ S0.wz) (e0 : D) (rest : List Nat) (Q : Exit → Act → World → Prop)
    (hQ : ∀ d a' w' G', Has x.res d → Sim n w0 S0 ⟨upd (upd ρ p e0) (p + 2) d, p + 3, fun i => i < p + 3⟩ G' (x.after σ (p + 2)) a' w' → wpOps P ops Q rest a' w') :
    wpOps P ops Q (c :: (c + 1) :: (c + 2) :: rest) a w := by
  unfold cpOp at h
  split at h
  · rename_i t1 k1 args argTypes ty0 pos0 af0 t2 y ty1 pos1 af1 t3 k2 args2 ats2 ty3 pos3 af3 ho0 ho1 ho2
    split at h
    · rename_i u1 u2 es e2 ty2 ps1 r1 ps2 r2 ha2 hes hy hk1 hk2
      split at h
      · rename_i hc
        obtain ⟨rfl, rfl, hne, hl1, hl2, hl3, hbr, hps1, hps2, hnt⟩ := hc
        injection h with h; subst h
        have hF := hfw k1 _ hk1
        have hW := hwl k2 _ hk2
        obtain ⟨k1', k2'⟩ := argsE_ok hs.t (pc := []) rfl hes
        have hlen : (args.toList.map a.eval).length = (es.map fun y => den ρ y.1).length := by simp [k1']
        have hrep : ∀ (i : Nat) v d, (args.toList.map a.eval)[i]? = some v → (es.map fun y => den ρ y.1)[i]? = some d → Rep w G.S v d := by
          intro i v d hv hd
          simp only [List.getElem?_map, Option.map_eq_some_iff] at hv hd
          obtain ⟨z, hz, rfl⟩ := hv
          obtain ⟨z', hz', rfl⟩ := hd
          exact (k2' i z z' hz hz').1
        have hhas : HasL (.ofL ps1) (es.map fun y => den ρ y.1) := by
          rw [← hps1]
          refine hasL_mk (by simp) fun j u z hj hz => ?_
          simp only [List.getElem?_map, Option.map_eq_some_iff] at hj hz
          obtain ⟨z1, hz1, rfl⟩ := hj
          obtain ⟨z2, hz2, rfl⟩ := hz
          rw [hz1] at hz2; injection hz2 with hz2; subst hz2
          have hjl : j < args.toList.length := by rw [← k1']; exact (List.getElem?_eq_some_iff.1 hz1).1
          exact (k2' j _ z1 (List.getElem?_eq_getElem hjl) hz1).2
        obtain ⟨y1, y2, y3⟩ := getV_ok hs.t (pc := []) rfl hy
        obtain ⟨vy, hvy⟩ : ∃ vy, vy = a.eval y := ⟨_, rfl⟩
        rw [← hvy] at y2
        -- the first call
        have hrun0 : (execOp a.eval ⟨some u1, .call { callee := .value (.func k1), args, argTypes }, ty0, pos0, af0, none⟩).run P w = .ok (.enter k1 (args.map a.eval)) w := by
          unfold execOp
          have := hF.enter (args.map a.eval) w
          simpa [resolve, Act.eval, Deferred.ofValue, invoke] using this
        have hargs : (args.toList.map a.eval).toArray = args.map a.eval := by apply Array.ext'; simp
        have hcall := hF.calls w G.S _ _ hs.m.footlt hlen hrep hhas trivial
        rw [hargs] at hcall
        refine wpOps_step ho0 rfl ?_
        rw [Oper.wp, hrun0]
        refine hcall.mono ?_
        rintro e w1 ⟨v1, F, rfl, hbel, hF1, hrv1, hhv1⟩
        simp only
        -- the move
        refine wpOps_step ho1 rfl ?_
        have hey : (a.put (some u1) v1).eval y = vy := by
          rw [hvy]
          cases y with
          | tmp t =>
            have hne2 : t ≠ u1 := by simpa [notTmp] using hnt
            simp only [Act.eval, Act.put]
            rw [Array.getD_eq_getD_getElem?, Array.getD_eq_getD_getElem?, Array.getElem?_setIfInBounds_ne (Ne.symm hne2)]
          | _ => rfl
        have hrun1 : (execOp (a.put (some u1) v1).eval ⟨some u2, .move y, ty1, pos1, af1, none⟩).run P w1 = .ok (.value vy) w1 := by
          unfold execOp; rw [← hey]; rfl
        rw [Oper.wp, hrun1]
        show wpOps P ops Q ((c + 2) :: rest) ((a.put (some u1) v1).put (some u2) vy) w1
        refine wpOps_step ho2 rfl ?_
        have hsz := hs.sz
        have hs1 : (a.put (some u1) v1).tmps.size = n := by rw [Act.put_size]; exact hsz
        have g1 : ((a.put (some u1) v1).put (some u2) vy).tmps[u1]? = some v1 := by
          simp only [Act.put]
          rw [Array.getElem?_setIfInBounds_ne (Ne.symm hne)]
          simp [hsz, hl1]
        have g2 : ((a.put (some u1) v1).put (some u2) vy).tmps[u2]? = some vy := by
          simp only [Act.put]
          simp [hsz, hl2]
        have hev : args2.map ((a.put (some u1) v1).put (some u2) vy).eval = #[v1, vy] := by
          apply Array.ext'
          rw [Array.toList_map, ha2]
          simp [Act.eval, g1, g2]
        have hrun2 : (execOp ((a.put (some u1) v1).put (some u2) vy).eval ⟨some t3, .call { callee := .value (.func k2), args := args2, argTypes := ats2 }, ty3, pos3, af3, none⟩).run P w1 = .ok (.enter k2 #[v1, vy]) w1 := by
          unfold execOp
          have := hW.enter #[v1, vy] w1
          have h2 : (callFunc k2 (args2.map ((a.put (some u1) v1).put (some u2) vy).eval)).run P w1 = .ok (.enter k2 #[v1, vy]) w1 := by rw [hev]; exact this
          simpa [resolve, Act.eval, Deferred.ofValue, invoke] using h2
        rw [Oper.wp, hrun2]
        refine (hW.calls w1 F [v1, vy] [Φ k1 (es.map fun y => den ρ y.1), den ρ e2] (fun b o hb => (hF1 b o hb).2) rfl (by
          intro i v d hv hd
          match i with
          | 0 => simp at hv hd; subst hv; subst hd; exact hrv1
          | 1 => simp at hv hd; subst hv; subst hd; exact rep_bare hbr y3 y2
          | i + 2 => simp at hv) (by
          rw [hps2]
          exact has_cons.2 ⟨_, _, rfl, hhv1, has_cons.2 ⟨_, _, rfl, y3, has_nil.2 rfl⟩⟩)).mono ?_
        rintro e w2 ⟨v2, S2, d2, rfl, hbx, hS2, hS2lt, hrv2, hhv2⟩
        simp only
        have hbel2 : Below w.heap.size w w2 := by
          refine ⟨hbx.os.trans hbel.os, hbx.tape.trans hbel.tape, hbx.output.trans hbel.output, Nat.le_trans hbel.size hbx.size, fun k hk => (hbx.block k (Nat.lt_of_lt_of_le hk hbel.size) ?_).trans (hbel.block k hk)⟩
          rintro ⟨o, ho⟩
          have := (hF1 k o ho).1
          omega
        have hS2n : ∀ b o, S2 b o → w.heap.size ≤ b := by
          intro b o hb
          rcases hS2 b o hb with ⟨o', h'⟩ | h'
          · exact (hF1 b o' h').1
          · exact Nat.le_trans hbel.size h'
        let G' : Gh := { S := fun b o => G.S b o ∨ S2 b o, β := G.β, τ := fun g => if g.1 = p then (fun _ => Value.nilIface) g.2 else G.τ g }
        have hpM : ¬ (⟨ρ, p, fun i => i < p⟩ : Cx).M p := Nat.lt_irrefl p
        obtain ⟨hlat, hm⟩ := hs.m.called (p := p) hpM (S' := G'.S) (τ' := fun _ => .nilIface) hbel2 (fun _ _ h => .inl h)
          (by
            rintro b o (h | h)
            · exact Nat.lt_of_lt_of_le (hs.m.footlt b o h) hbel2.size
            · exact (hS2lt b o h).1)
          (by
            rintro b o (h | h)
            · exact .inl h
            · exact .inr (hS2n b o h))
          σ.live G' rfl (fun g z hz => .inl ⟨fun e => hpM (e ▸ (hs.m.own g z.1 z.2.1 z.2.2 hz).m), hz⟩)
          (fun j k z z' b hz _ _ _ => absurd ((hs.m.own _ z.1 z.2.1 z.2.2 hz).m) hpM) (fun hff => absurd hff hnf) hnw
        have hag : ∀ i, i < p → upd (upd ρ p e0) (p + 2) d2 i = ρ i := fun i hi => (upd_ne _ _ (by omega)).trans (upd_ne _ _ (by omega))
        have hlat2 : Later ((⟨ρ, p, fun i => i < p⟩ : Cx).add p) w2 G' ⟨upd (upd ρ p e0) (p + 2) d2, p + 3, fun i => i < p + 3⟩ w2 G' :=
          ⟨fun e he => ⟨den_agree hag he, E.lt_mono' (by show p ≤ p + 3; omega) he⟩, fun i hi => by
            rcases hi with hi | hi
            · exact Nat.lt_of_lt_of_le hi (by omega)
            · show i < p + 3; omega, fun _ _ h => h, fun _ _ _ => rfl, fun _ _ => rfl, fun _ _ => rfl⟩
        have hm2 := (hm.later_same hlat2).congr (σ' := CpOp.after ⟨k1, .ofL (es.map (·.1)), u1, u2, e2, ty2, k2, t3, r2⟩ σ (p + 2)) rfl rfl
        have ht2 := hs.t.later (hlat.trans hlat2)
        refine hQ d2 _ w2 G' hhv2 ⟨hm2, ?_, by rw [Act.put_size, Act.put_size]; exact hs1, hs.defers⟩
        have hput : ∀ (a' : Act) (u : Nat) (v : Value) (t : Nat), t ≠ u → (a'.put (some u) v).tmps[t]? = a'.tmps[t]? := by
          intro a' u v t ht
          simp only [Act.put]
          rw [Array.getElem?_setIfInBounds_ne (Ne.symm ht)]
        intro t cc s hts
        simp only [CpOp.after] at hts
        split at hts
        · rename_i ht3
          subst ht3
          simp only [Option.some.injEq, Prod.mk.injEq] at hts
          obtain ⟨rfl, rfl⟩ := hts
          refine ⟨v2, ?_, by simp, by simp [SV.lt, SC.lt, E.lt], ?_⟩
          · have h9 : ((a.put (some u1) v1).put (some u2) vy).tmps.size = n := by rw [Act.put_size]; exact hs1
            simp only [Act.put] at h9 ⊢
            simp at h9
            simp [h9, hl3]
          · simp only [condB, List.all_nil, if_true]
            have hd : den (upd (upd ρ p e0) (p + 2) d2) (.var (p + 2)) = d2 := upd_same _ _ _
            exact ⟨by simp [E.lt], by show Rep w2 G'.S v2 (den (upd (upd ρ p e0) (p + 2) d2) _); rw [hd]; exact hrv2.keep (fun _ _ h => .inr h) (fun _ _ _ => rfl), by show Has r2 (den (upd (upd ρ p e0) (p + 2) d2) _); rw [hd]; exact hhv2⟩
        · rename_i hnt3
          split at hts
          · rename_i htt
            subst htt
            simp only [Option.some.injEq, Prod.mk.injEq] at hts
            obtain ⟨rfl, rfl⟩ := hts
            refine ⟨vy, by rw [hput _ _ _ _ hnt3]; exact g2, by simp, E.lt_mono' (by show p ≤ p + 3; omega) y1, ?_⟩
            simp only [condB, List.all_nil, if_true]
            have hde : den (upd (upd ρ p e0) (p + 2) d2) e2 = den ρ e2 := den_agree hag y1
            exact ⟨E.lt_mono' (by show p ≤ p + 3; omega) y1, by show Rep w2 G'.S _ (den (upd (upd ρ p e0) (p + 2) d2) e2); rw [hde]; exact rep_bare hbr y3 y2, by show Has _ (den (upd (upd ρ p e0) (p + 2) d2) e2); rw [hde]; exact y3⟩
          · rename_i hntt
            split at hts
            · cases hts
            · rename_i hnt1
              obtain ⟨v, q1, q2, q3, q4⟩ := ht2 t cc s hts
              exact ⟨v, by rw [hput _ _ _ _ hnt3, hput _ _ _ _ hntt, hput _ _ _ _ hnt1]; exact q1, q2, q3, q4⟩
      · cases h
    · cases h
  · cases h
end
end Go.Eng
