/-
  Bodies of which the first pieces are run symbolically, the rest by hand.
-/
import Derived.Test.YtjpkeliliahjoaaEngSb
namespace Go.Eng
open Go Go.RowKit

def seqs : List Code → Code → Code
  | [], c => c
  | a :: r, c => .seq a (seqs r c)
/-- The first pieces, and the rest. -/
def cutC : Nat → Code → List Code × Code
  | n + 1, .seq a b => (a :: (cutC n b).1, (cutC n b).2)
  | _, c => ([], c)
def bodyOf (fn : Func) : Code := match fn.body with
  | some c => c
  | none => .skip
theorem body_cut {fn : Func} (h : fn.body.isSome = true) (n : Nat) : fn.body = some (seqs (cutC n (bodyOf fn)).1 (cutC n (bodyOf fn)).2) := by
  have key : ∀ n c, seqs (cutC n c).1 (cutC n c).2 = c := by
    intro n
    induction n with
    | zero => intro c; cases c <;> rfl
    | succ n ih => intro c; cases c <;> first | rfl | (simp only [cutC, seqs, ih])
  rw [key]
  unfold bodyOf
  cases hb : fn.body with
  | none => rw [hb] at h; cases h
  | some c => rfl
def vcs (N : En) : List Code → (St → Nat → Nat → VC) → St → Nat → Nat → VC
  | [], k, σ, p, d => k σ p d
  | c :: r, k, σ, p, d => vc N c (fun ex σ p d => match ex with | .normal => vcs N r k σ p d | _ => .stuck 0) σ p d
theorem vcs_sound {N : En} {Φ : Nat → List D → D} {Pre : Nat → List D → Prop} {R : D → Prop} {w0 : World} {S0 : Base} (hmix : N.P.follows .mixedOrders = true) (hcon : ∀ k sig, lk N.cs.l k = some sig → PureFn N.P k sig (Pre k) (Φ k))
    (hfl : ∀ k sig ob, lk N.cs.l k = some sig → sig.ob = some ob → ob.isPl = true → ∀ b o, S0.foot b o → ¬ NewB w0 S0 b) (hcf : (S0.fr → N.cs.fr = 1) ∧ (S0.wz → N.cs.fr = 2)) (hfw : ∀ k y, lk N.fw k = some y → FreshFn N.P k y.1 y.2 (fun _ => True) (Φ k)) (hwl : ∀ k y, lk N.wl k = some y → WildFn N.P k y.1 y.2)
    (hwz : N.cs.fr = 2 → (∀ b o, ¬ S0.foot b o) ∧ S0.wz) {rest : Code} {Q : Exit → Act → World → Prop} :
    ∀ (cs : List Code) (k : St → Nat → Nat → VC) (σ : St) (p d : Nat) (ρ : Nat → D) (stk : List (List D → Prop)), (vcs N cs k σ p d).holds Φ Pre R ρ stk → stk.length = d → (∀ i b, S0.pin i = some b → i < p) →
    (∀ σ' p' d' ρ' stk' a w G, p ≤ p' → (∀ i, i < p → ρ' i = ρ i) → (k σ' p' d').holds Φ Pre R ρ' stk' → Sim N.n w0 S0 ⟨ρ', p', fun i => i < p'⟩ G σ' a w → rest.wp N.P Q a w) →
    ∀ a w G, Sim N.n w0 S0 ⟨ρ, p, fun i => i < p⟩ G σ a w → (seqs cs rest).wp N.P Q a w
  | [], k, σ, p, d, ρ, stk, h, _, _, hk, a, w, G, hs => hk σ p d ρ stk a w G (Nat.le_refl _) (fun _ _ => rfl) h hs
  | c :: r, k, σ, p, d, ρ, stk, h, hd, hpin, hk, a, w, G, hs => by
    refine wp_seq (vc_sound hmix hcon hfl hcf hfw hwl hwz c _ σ p d ρ stk _ h hd hpin ?_ a w G hs)
    intro ex σ' p' d' ρ' stk' a' w' G' hp hag hd' _ hkk hs'
    cases ex with
    | normal =>
      refine vcs_sound hmix hcon hfl hcf hfw hwl hwz r k σ' p' d' ρ' stk' hkk hd' (fun i b hi => Nat.lt_of_lt_of_le (hpin i b hi) hp) ?_ a' w' G' hs'
      intro σ2 p2 d2 ρ2 stk2 a2 w2 G2 hp2 hag2 hk2 hs2
      exact hk σ2 p2 d2 ρ2 stk2 a2 w2 G2 (Nat.le_trans hp hp2) (fun i hi => (hag2 i (Nat.lt_of_lt_of_le hi hp)).trans (hag i hi)) hk2 hs2
    | exit i => exact hkk.elim
    | ret => exact hkk.elim

/-- The state at a function's beginning. -/
theorem sim_start {n : Nat} {w : World} {S : Foot} {fr : Prop} {ps : List Ty} {vs : List Value} {ds : List D} (hSlt : ∀ b o, S b o → b < w.heap.size) (hlen : vs.length = ds.length) (hrep : ∀ (i : Nat) v d, vs[i]? = some v → ds[i]? = some d → Rep w S v d)
    (hty : HasL (.ofL ps) ds) (hps : ps.length ≤ n) : Sim n w ⟨S, fun _ => False, fun _ => none, fr, False⟩ ⟨fun i => ds.getD i .top, ps.length, fun i => i < ps.length⟩ ⟨S, fun _ => 0, fun _ => .nilIface⟩ (St.start ps) ⟨vs.toArray ++ Array.replicate (n - vs.toArray.size) undef, []⟩ w := by
  have hdl : ds.length = ps.length := by rw [hasL_len hty, Ty.toL_ofL]
  refine ⟨⟨BelowX.refl _ _, fun _ _ h => h, fun _ _ _ => rfl, fun i b h => (by cases h), fun i b h => (by cases h), hSlt, fun _ _ h => .inl h, ?_, ?_, ?_, ?_, fun g x b hx => (by cases hx), ?_, ?_, fun _ _ => FrV.nilIface, fun h => h.elim⟩, ?_, ?_, rfl⟩
  · intro id x hx; cases hx
  · intro id ro cs hx; cases hx
  · intro i j x y hx; cases hx
  · intro g e T t hx; cases hx
  · intro g g' x y b hx; cases hx
  · intro g id x y b hx; cases hx
  · intro t c s hts
    simp only [St.start] at hts
    split at hts
    · rename_i ty hty'
      injection hts with hts; simp only [Prod.mk.injEq] at hts; obtain ⟨rfl, rfl⟩ := hts
      have htl : t < ps.length := (List.getElem?_eq_some_iff.1 hty').1
      have hdt : ds[t]? = some (ds[t]'(by omega)) := List.getElem?_eq_getElem _
      have hvt : vs[t]? = some (vs[t]'(by omega)) := List.getElem?_eq_getElem _
      obtain ⟨x, hx, hxh⟩ := hasL_get hty t ty (by rw [Ty.toL_ofL]; exact hty')
      rw [hdt] at hx; injection hx with hx
      have hden : den (fun i => ds.getD i .top) (.var t) = ds[t]'(by omega) := by show ds.getD t .top = _; exact toL_getD hdt
      refine ⟨vs[t]'(by omega), ?_, by simp, by simpa [SV.lt, SC.lt, E.lt] using htl, ?_⟩
      · rw [Array.getElem?_append_left (by simp; omega)]; simp [hvt]
      · simp only [condB, List.all_nil, if_true]
        refine ⟨by simpa [E.lt] using htl, ?_, ?_⟩
        · show Rep w S _ (den (fun i => ds.getD i .top) (.var t))
          rw [hden]; exact hrep t _ _ hvt hdt
        · show Has ty (den (fun i => ds.getD i .top) (.var t))
          rw [hden, hx]; exact hxh
    · cases hts
  · simp; omega

/-- Two variables at hand: of the first all cells but one lean on new blocks alone. -/
def cpEnd (t1 t2 m : Nat) (ts : List Ty) (σ : St) : VC :=
  match σ.tm t1, σ.tm t2 with
  | some ([], .one (.adr i 0)), some ([], .one (.adr j 0)) =>
    match σ.hp i, σ.hp j with
    | some (false, cs), some (false, cs2) =>
      match asDatas cs with
      | some (es, ts') => if i ≠ j ∧ cs2.length = cs.length ∧ ts' = ts ∧ (cs.take m).all freshSC = true then .ret (.ofL es) else .stuck 41
      | none => .stuck 42
    | _, _ => .stuck 43
  | _, _ => .stuck 44

def newF (w0 w : World) (S : Foot) : Foot := fun b o => S b o ∧ w0.heap.size ≤ b ∧ ∃ cur T, w.heap[b]? = some (.cells cur T (0, 0))

structure CpAt (t1 t2 m : Nat) (ts : List Ty) (ds : List D) (n : Nat) (w0 : World) (S0 S : Foot) (b1 b2 : Nat) (us vs : List Value) (T1 T2 : TypeId) (a : Act) (w : World) : Prop where
  below : Below w0.heap.size w0 w
  sz : a.tmps.size = n
  defers : a.defers = []
  p1 : a.tmps[t1]? = some (.pointer (some ⟨b1, 0, none⟩))
  p2 : a.tmps[t2]? = some (.pointer (some ⟨b2, 0, none⟩))
  n1 : w0.heap.size ≤ b1
  n2 : w0.heap.size ≤ b2
  ne : b1 ≠ b2
  h1 : w.heap[b1]? = some (.cells us.toArray T1 (0, 0))
  h2 : w.heap[b2]? = some (.cells vs.toArray T2 (0, 0))
  ul : us.length = ts.length
  vl : vs.length = ts.length
  has : HasL (.ofL ts) ds
  foot : ∀ b o, S0 b o → S b o
  lt : ∀ b o, S b o → b < w.heap.size
  x1 : ∀ o, ¬ S b1 o
  x2 : ∀ o, ¬ S b2 o
  rep : ∀ (i : Nat) v d, us[i]? = some v → ds[i]? = some d → Rep w S v d
  fresh : ∀ (i : Nat) v d, i < m → us[i]? = some v → ds[i]? = some d → Rep w (newF w0 w S) v d

theorem cpEnd_ok {t1 t2 m n p : Nat} {ts : List Ty} {ds : List D} {w0 w : World} {S : Foot} {ρ : Nat → D} {G : Gh} {σ : St} {a : Act} {Φ : Nat → List D → D} {Pre : Nat → List D → Prop} {stk : List (List D → Prop)}
    (h : (cpEnd t1 t2 m ts σ).holds Φ Pre (fun d => d = .list ds) ρ stk) (hs : Sim n w0 ⟨S, fun _ => False, fun _ => none, True, False⟩ ⟨ρ, p, fun i => i < p⟩ G σ a w) :
    ∃ b1 b2 us vs T1 T2, CpAt t1 t2 m ts ds n w0 S G.S b1 b2 us vs T1 T2 a w := by
  unfold cpEnd at h
  split at h
  · rename_i i j hi hj
    split at h
    · rename_i cs cs2 hci hcj
      split at h
      · rename_i es ts' has
        split at h
        · rename_i hc
          obtain ⟨hij, hl2, rfl, hfr⟩ := hc
          have hd : den ρ (.ofL es) = .list ds := h
          rw [den_ofL] at hd
          injection hd with hd
          obtain ⟨v1, hv1, _, _, hr1⟩ := hs.t _ _ _ hi
          obtain ⟨v2, hv2, _, _, hr2⟩ := hs.t _ _ _ hj
          simp only [condB, List.all_nil, if_true] at hr1 hr2
          obtain ⟨_, rfl⟩ := hr1
          obtain ⟨_, rfl⟩ := hr2
          obtain ⟨n1, _, ⟨us, T1, g1, r1⟩, e1⟩ := hs.m.box _ _ _ hci
          obtain ⟨n2, _, ⟨vs, T2, g2, r2⟩, e2⟩ := hs.m.box _ _ _ hcj
          have n1' : w0.heap.size ≤ G.β i := n1.elim (fun h => h) (fun h => h.1.elim)
          have n2' : w0.heap.size ≤ G.β j := n2.elim (fun h => h) (fun h => h.1.elim)
          obtain ⟨k1, k2, k3, k4, k5⟩ := asDatas_ok has r1
          have hdd : ∀ (i : Nat) d, ds[i]? = some d → ∃ e, es[i]? = some e ∧ den ρ e = d := by
            intro i d hd'
            rw [← hd] at hd'
            simpa using hd'
          refine ⟨_, _, us, vs, T1, T2, ⟨hs.m.below.to (fun _ h => h), hs.sz, hs.defers, hv1, hv2, n1', n2', fun e => hij (hs.m.inj _ _ _ _ hci hcj e), g1, g2, k3.symm, ?_, ?_, hs.m.foot0, hs.m.footlt, by simpa using e1, by simpa using e2, ?_, ?_⟩⟩
          · rw [r2.1, hl2, ← r1.1, k3]
          · rw [← hd]; exact k5
          · intro i' v d hv hd'
            obtain ⟨e, he, rfl⟩ := hdd i' d hd'
            exact k4 i' v e hv he
          · intro i' v d him hv hd'
            obtain ⟨e, he, rfl⟩ := hdd i' d hd'
            have hil : i' < us.length := (List.getElem?_eq_some_iff.1 hv).1
            have hcl : i' < cs.length := by rw [← r1.1]; exact hil
            have hci' : cs[i']? = some (cs[i']'hcl) := List.getElem?_eq_getElem hcl
            have hf : freshSC (cs[i']'hcl) = true := by
              have := List.all_eq_true.1 hfr (cs[i']'hcl) (List.mem_of_getElem? (i := i') (by rw [List.getElem?_take, if_pos him]; exact hci'))
              exact this
            have h7 := (k4 i' v e hv he).fresh (N := NewB w0 ⟨S, fun _ => False, fun _ => none, True, False⟩) (freshSC_val hf (hs.m.fresh trivial) (r1.2 i' _ v hci' hv))
            exact h7.keep (fun b o hb => ⟨hb.1, hb.2.1.elim (fun h => h) (fun h => h.elim), hb.2.2⟩) (fun _ _ _ => rfl)
        · exact h.elim
      · exact h.elim
    · exact h.elim
  · exact h.elim

/-- A call whose body's first pieces are run symbolically. -/
theorem calls_cut {P : Program} {cs : Tbl} {anns : List (Nat × Ann)} {Φ : Nat → List D → D} {Pre : Nat → List D → Prop} {R : D → Prop} {f : Nat} {fn : Func} {m : Nat} {ps : List Ty} {vs : List Value} {ds : List D} {S : Foot} {w : World} {fr : Prop} {k : St → Nat → Nat → VC} {RR : Ending → World → Prop} {v : VC}
    (hf : P.funcs[f]? = some fn) (hb : fn.body.isSome = true) (hmix : P.follows .mixedOrders = true) (hcon : Con P Pre Φ cs.l) (hfr : (fr → cs.fr = 1)) (h2 : cs.fr < 2)
    (hveq : vcs ⟨P, cs, fn.ntmps, anns, [], []⟩ (cutC m (bodyOf fn)).1 k (St.start ps) ps.length 0 = v) (hv : v.holds Φ Pre R (fun i => ds.getD i .top) []) (hSlt : ∀ b o, S b o → b < w.heap.size) (hlen : vs.length = ds.length) (hrep : ∀ (i : Nat) v d, vs[i]? = some v → ds[i]? = some d → Rep w S v d)
    (hty : HasL (.ofL ps) ds) (hps : ps.length ≤ fn.ntmps)
    (hk : ∀ σ' p' d' ρ' stk' a w' G, (k σ' p' d').holds Φ Pre R ρ' stk' → Sim fn.ntmps w ⟨S, fun _ => False, fun _ => none, fr, False⟩ ⟨ρ', p', fun i => i < p'⟩ G σ' a w' → (cutC m (bodyOf fn)).2.wp P (bodyPost P fn RR) a w') : Calls P f vs.toArray w RR := by
  refine calls_of_wp hf (body_cut hb m) ?_
  rw [← hveq] at hv
  refine vcs_sound (N := ⟨P, cs, fn.ntmps, anns, [], []⟩) (S0 := ⟨S, fun _ => False, fun _ => none, fr, False⟩) hmix hcon (fun k sig ob _ _ _ b o hb => by
      rintro (h | h)
      · exact absurd (hSlt b o hb) (by show ¬ b < w.heap.size; have : w.heap.size ≤ b := h; omega)
      · exact h) ⟨hfr, fun h => h.elim⟩ (fun _ _ h => by cases h) (fun _ _ h => by cases h) (fun h => by have : cs.fr = 2 := h; omega) _ _ _ _ 0 _ [] hv rfl (fun i b h => by cases h) ?_ _ w _ (sim_start hSlt hlen hrep hty hps)
  intro σ' p' d' ρ' stk' a w' G' hp hag hk' hsim
  exact hk _ _ _ _ _ _ _ _ hk' hsim
end Go.Eng
