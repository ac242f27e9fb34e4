/-
  The contract of a function that is handed objects, out of its body's condition.
-/
import Derived.Test.YtjpkeliliahjoaaEngS
namespace Go.Eng
open Go Go.RowKit

def varCells : Nat → List RCell → List SC
  | _, [] => []
  | k, c :: r => cellSC true 0 (.var k) c :: varCells (k + 1) r
def varLive : Nat → List RCell → List (Tag × Option (E × TypeId × Ty))
  | _, [] => []
  | k, c :: r => cellLive 0 (.var k) c ++ varLive (k + 1) r
def countF (l : List Bool) : Nat := (l.filter fun b => !b).length
def countT (l : List Bool) : Nat := (l.filter fun b => b).length
def objOff (nd : Nat) (objs : List (List RCell)) (o : Nat) : Nat := nd + (objs.take o).flatten.length
/-- The state in which such a body begins. -/
def St.startO (sig : Sig) (ob : Ob) : St :=
  ⟨fun i => match ob.shape[i]? with
      | some false => (sig.params[countF (ob.shape.take i)]?).map fun ty => ([], .one (.dat (.var (countF (ob.shape.take i))) ty))
      | some true => some ([], .one (.adr (countT (ob.shape.take i)) 0))
      | none => none,
    fun o => (ob.objs[o]?).map fun rc => (false, varCells (objOff (countF ob.shape) ob.objs o) rc),
    updL (fun _ => none) (varLive (countF ob.shape) ob.objs.flatten)⟩

/-- The result: its data, what it owns, the new object. -/
def resO (P : Program) (σ : St) (sig : Sig) (ob : Ob) (fn : Func) : Option (E × OwnL × List Nat) :=
  match ob.fresh with
  | true => match fn.results.toList with
    | [.tmp t] => match σ.tm t with
      | some ([], .one (.adr id 0)) => if ob.objs.length ≤ id then some (.un .tup .nil, [], [id]) else none
      | _ => none
    | _ => none
  | false => match retComps P σ sig.res fn.results.toList with
    | some (es, l) => some ((match sig.res, es with | [_], [e] => e | _, es => .un .tup (.ofL es)), l, [])
    | none => none
def retVCo (P : Program) (sig : Sig) (ob : Ob) (fn : Func) (σ : St) : VC :=
  match resO P σ sig ob fn with
  | some (e, l, fr) => match oObjs σ ob.outs (List.range ob.objs.length ++ fr) with
    | some (ess, ls) => if ownOkB (l ++ ls) then .ret (.un .tup (.cons e (.ofL (ess.map fun es => .un .agg (.ofL es))))) else .stuck 10
    | none => .stuck 12
  | none => .stuck 11

/-- The table's form. -/
def obB (fn : Func) (sig : Sig) (ob : Ob) : Bool :=
  fn.body.isSome && !(fn.name == "runtime.NumGoroutine") && decide (ob.shape.length ≤ fn.ntmps) && decide (0 < sig.params.length) && decide (ob.objs.length ≤ sig.params.length) && (ob.objs.all fun rc => rc.all rcSc) &&
  decide (sig.params.length = countF ob.shape + ob.objs.flatten.length) && decide (countT ob.shape = ob.objs.length) && decide (ob.inIdx.Nodup) && decide (ob.outs.length = ob.objs.length + ob.fresh.toNat) && (!ob.fresh || sig.res.isEmpty)

theorem varCells_get : ∀ (l : List RCell) (k i : Nat), (varCells k l)[i]? = (l[i]?).map fun c => cellSC true 0 (.var (k + i)) c
  | [], k, i => by simp [varCells]
  | c :: l, k, 0 => by simp [varCells]
  | c :: l, k, i + 1 => by simp only [varCells, List.getElem?_cons_succ, varCells_get l (k + 1) i]; congr 2; funext c; congr 2; omega
theorem varCells_len : ∀ (l : List RCell) (k : Nat), (varCells k l).length = l.length
  | [], _ => rfl
  | _ :: l, k => by simp [varCells, varCells_len l]
theorem varLive_mem : ∀ {l : List RCell} {k : Nat} {x}, x ∈ varLive k l → ∃ (i : Nat) (c : RCell), l[i]? = some c ∧ x ∈ cellLive 0 (.var (k + i)) c
  | [], k, x, h => by simp [varLive] at h
  | c :: l, k, x, h => by
    simp only [varLive, List.mem_append] at h
    rcases h with h | h
    · exact ⟨0, c, rfl, h⟩
    · obtain ⟨i, c', h1, h2⟩ := varLive_mem h
      exact ⟨i + 1, c', by simpa using h1, by rw [show k + (i + 1) = k + 1 + i by omega]; exact h2⟩
theorem varLive_cell : ∀ {l : List RCell} {k : Nat} {i : Nat} {t : Ty} {j : Nat} {T : TypeId}, l[i]? = some (t, some (j, T)) → (((0, j), some (.var (k + i), T, t)) : Tag × Option (E × TypeId × Ty)) ∈ varLive k l
  | [], k, i, t, j, T, h => by simp at h
  | c :: l, k, 0, t, j, T, h => by simp at h; subst h; exact List.mem_append_left _ (by simp [cellLive])
  | c :: l, k, i + 1, t, j, T, h => by
    have := varLive_cell (k := k + 1) (l := l) (i := i) (by simpa using h)
    rw [show k + (i + 1) = k + 1 + i by omega]
    exact List.mem_append_right _ this
/-- An element of one of some lists, one behind the other. -/
theorem flatten_get {α : Type} : ∀ {ls : List (List α)} {i : Nat} {x : α}, ls.flatten[i]? = some x → ∃ (o c : Nat) (l : List α), ls[o]? = some l ∧ l[c]? = some x ∧ i = (ls.take o).flatten.length + c
  | [], i, x, h => by simp at h
  | l :: ls, i, x, h => by
    rw [List.flatten_cons] at h
    by_cases hi : i < l.length
    · rw [List.getElem?_append_left hi] at h
      exact ⟨0, i, l, rfl, h, by simp⟩
    · rw [List.getElem?_append_right (by omega)] at h
      obtain ⟨o, c, l', h1, h2, h3⟩ := flatten_get h
      exact ⟨o + 1, c, l', by simpa using h1, h2, by simp only [List.take_succ_cons, List.flatten_cons, List.length_append]; omega⟩
theorem flatten_at {α : Type} : ∀ {ls : List (List α)} {o c : Nat} {l : List α} {x : α}, ls[o]? = some l → l[c]? = some x → ls.flatten[(ls.take o).flatten.length + c]? = some x
  | [], o, c, l, x, h, _ => by simp at h
  | l' :: ls, 0, c, l, x, h, h' => by
    simp at h; subst h
    have hc : c < l'.length := (List.getElem?_eq_some_iff.1 h').1
    simp only [List.take_zero, List.flatten_nil, List.length_nil, Nat.zero_add, List.flatten_cons]
    rw [List.getElem?_append_left hc]; exact h'
  | l' :: ls, o + 1, c, l, x, h, h' => by
    have := flatten_at (ls := ls) (o := o) (c := c) (by simpa using h) h'
    simp only [List.take_succ_cons, List.flatten_cons, List.length_append]
    rw [List.getElem?_append_right (by omega), show l'.length + (ls.take o).flatten.length + c - l'.length = (ls.take o).flatten.length + c by omega]
    exact this
theorem flatten_same {α β : Type} : ∀ {xs : List (List α)} {ys : List (List β)}, xs.length = ys.length → (∀ (i : Nat) x y, xs[i]? = some x → ys[i]? = some y → x.length = y.length) → ∀ o, (xs.take o).flatten.length = (ys.take o).flatten.length
  | [], [], _, _, o => by simp
  | [], _ :: _, h, _, _ => by simp at h
  | _ :: _, [], h, _, _ => by simp at h
  | x :: xs, y :: ys, h, h', 0 => by simp
  | x :: xs, y :: ys, h, h', o + 1 => by
    have := flatten_same (xs := xs) (ys := ys) (by simpa using h) (fun i x y hx hy => h' (i + 1) x y (by simpa using hx) (by simpa using hy)) o
    simp only [List.take_succ_cons, List.flatten_cons, List.length_append, this, h' 0 x y rfl rfl]

theorem argsO_get {w : World} {S : Foot} {β : Nat → Nat} : ∀ {sh : List Bool} {k : Nat} {vs : List Value} {dd : List D}, ArgsO w S β sh k vs dd → vs.length = sh.length ∧ dd.length = countF sh ∧
    ∀ (i : Nat) b, sh[i]? = some b → ∃ v, vs[i]? = some v ∧ (if b then v = .pointer (some ⟨β (k + countT (sh.take i)), 0, none⟩) else ∃ d, dd[countF (sh.take i)]? = some d ∧ Rep w S v d)
  | [], k, [], [], _ => ⟨rfl, rfl, by intro i b h; simp at h⟩
  | true :: sh, k, v :: vs, dd, ⟨h1, h2⟩ => by
    obtain ⟨q1, q2, q3⟩ := argsO_get h2
    refine ⟨by simp [q1], by simp [countF, q2], fun i b hi => ?_⟩
    cases i with
    | zero => simp at hi; subst hi; exact ⟨v, rfl, by simpa [countT] using h1⟩
    | succ i =>
      obtain ⟨u, hu, hb⟩ := q3 i b (by simpa using hi)
      refine ⟨u, by simpa using hu, ?_⟩
      cases b with
      | true => simp only [if_true] at hb ⊢; rw [hb]; simp only [List.take_succ_cons, countT, List.filter_cons, if_true, List.length_cons]; rw [show k + 1 + (List.filter (fun b => b) (List.take i sh)).length = k + ((List.filter (fun b => b) (List.take i sh)).length + 1) by omega]
      | false => simpa [countF] using hb
  | false :: sh, k, v :: vs, d :: dd, ⟨h1, h2⟩ => by
    obtain ⟨q1, q2, q3⟩ := argsO_get h2
    refine ⟨by simp [q1], by simp only [countF, List.filter_cons, Bool.not_false, if_true, List.length_cons] at q2 ⊢; omega, fun i b hi => ?_⟩
    cases i with
    | zero => simp at hi; subst hi; exact ⟨v, rfl, by simpa [countF] using h1⟩
    | succ i =>
      obtain ⟨u, hu, hb⟩ := q3 i b (by simpa using hi)
      refine ⟨u, by simpa using hu, ?_⟩
      cases b with
      | true => simpa [countT] using hb
      | false => simpa [countF] using hb
  | [], _, _ :: _, _, h => by simp [ArgsO] at h
  | [], _, [], _ :: _, h => by simp [ArgsO] at h
  | true :: _, _, [], _, h => by simp [ArgsO] at h
  | false :: _, _, [], _, h => by simp [ArgsO] at h
  | false :: _, _, _ :: _, [], h => by simp [ArgsO] at h

theorem countT_lt : ∀ {l : List Bool} {i : Nat}, l[i]? = some true → countT (l.take i) < countT l
  | [], i, h => by simp at h
  | b :: l, 0, h => by simp at h; subst h; simp [countT]
  | b :: l, i + 1, h => by
    have := countT_lt (l := l) (i := i) (by simpa using h)
    unfold countT at this ⊢
    cases b <;> simp at this ⊢ <;> omega

section
variable {P : Program} {C : Cx} {w w0 : World} {S0 : Base} {G : Gh} {σ : St} {a : Act} {n : Nat}

/-- No function of the table writes over slices that it is handed. -/
def noPl (cs : List (Nat × Sig)) : Bool := cs.all fun x => match x.2.ob with | some ob => !ob.isPl | none => true
theorem noPl_ok {cs : List (Nat × Sig)} (h : noPl cs = true) {k : Nat} {sig : Sig} {ob : Ob} (hk : lk cs k = some sig) (hob : sig.ob = some ob) (hp : ob.isPl = true) : False := by
  have := List.all_eq_true.1 h _ (lk_mem hk)
  simp only [hob, hp] at this
  cases this

theorem objFn_of_vc {f : Nat} {fn : Func} {c : Code} {sig : Sig} {ob : Ob} {Pre0 : List D → Prop} {Φ0 : List D → D} (cs : Tbl) (Φ : Nat → List D → D) (Pre : Nat → List D → Prop) (anns : List (Nat × Ann)) (v : VC)
    (hf : P.funcs[f]? = some fn) (hb : fn.body = some c) (hmix : P.follows .mixedOrders = true) (hob : sig.ob = some ob) (hB : obB fn sig ob = true) (hnp : noPl cs.l = true) (hcf : cs.fr = 0)
    (hcon : ∀ k sig, lk cs.l k = some sig → PureFn P k sig (Pre k) (Φ k))
    (hv : vc ⟨P, cs, fn.ntmps, anns, [], []⟩ c (fun ex σ _ _ => match ex with | .exit _ => .stuck 20 | _ => retVCo P sig ob fn σ) (St.startO sig ob) sig.params.length 0 = v)
    (hc : ∀ ds, HasL (.ofL sig.params) ds → Pre0 ds → v.holds Φ Pre (fun d => d = Φ0 ds) (fun i => ds.getD i .top) []) : PureFn P f sig Pre0 Φ0 := by
  unfold obB at hB
  simp only [Bool.and_eq_true, decide_eq_true_eq] at hB
  obtain ⟨⟨⟨⟨⟨⟨⟨⟨⟨⟨_, hname⟩, hps⟩, hpos⟩, hole⟩, hscal⟩, hplen⟩, hcT⟩, hidx⟩, houts⟩, hfres⟩ := hB
  refine ⟨fun args w => ?_, fun hob' => (by rw [hob] at hob'; cases hob'), fun ob' hob' _ w S β τ vs dd oo hin hty hpre => ?_, fun ob' hob' hpl => absurd hpl (by
    rw [hob] at hob'; injection hob' with hob'; subst hob'
    intro hpl
    unfold Ob.isPl at hpl
    simp only [Bool.and_eq_true, List.isEmpty_iff, beq_iff_eq] at hpl
    obtain ⟨⟨_, h1⟩, h2⟩ := hpl
    have h3 := houts
    rw [h2, h1] at h3
    cases hfr : ob.fresh <;> rw [hfr] at h3 <;> simp at h3)⟩
  · unfold callFunc
    have hname' : fn.name ≠ "runtime.NumGoroutine" := by simpa using hname
    simp [hf, hb, hname']
  rw [hob] at hob'; injection hob' with hob'; subst hob'
  obtain ⟨hvl, hddl, hag⟩ := argsO_get hin.args
  -- the data, by their numbers
  have hool : ∀ (o : Nat) rc cells, ob.objs[o]? = some rc → oo[o]? = some cells → rc.length = cells.length := by
    intro o rc cells h1 h2
    obtain ⟨_, _, _, _, h3, _⟩ := hin.objs o rc cells h1 h2
    exact h3.symm
  have hoff : ∀ o, (ob.objs.take o).flatten.length = (oo.take o).flatten.length := flatten_same (by rw [hin.len]) hool
  let ds := dd ++ oo.flatten
  have hρo : ∀ (o c : Nat) cells d, oo[o]? = some cells → cells[c]? = some d → ds.getD (objOff (countF ob.shape) ob.objs o + c) .top = d := by
    intro o c cells d h1 h2
    refine toL_getD ?_
    show (dd ++ oo.flatten)[_]? = _
    rw [List.getElem?_append_right (by unfold objOff; omega)]
    have := flatten_at h1 h2
    rw [← hoff] at this
    rw [← this]; congr 1
    unfold objOff; omega
  have hNlt : ∀ (o c : Nat) rc r, ob.objs[o]? = some rc → rc[c]? = some r → objOff (countF ob.shape) ob.objs o + c < sig.params.length := by
    intro o c rc r h1 h2
    have := (List.getElem?_eq_some_iff.1 (flatten_at h1 h2)).1
    rw [hplen]; unfold objOff; omega
  let S1 : Base := ⟨S, MuO ob β τ, fun o => if o < ob.objs.length then some (β o) else none, False, False⟩
  let G1 : Gh := ⟨S, β, fun g => τ g.2⟩
  let C1 : Cx := ⟨fun i => ds.getD i .top, sig.params.length, fun i => i < sig.params.length⟩
  have hcell : ∀ (o : Nat) rc, ob.objs[o]? = some rc → ∃ cells vals T, oo[o]? = some cells ∧ w.heap[β o]? = some (.cells (List.toArray vals) T (0, 0)) ∧ vals.length = rc.length ∧ (∀ o', ¬ S (β o) o') ∧
      ∀ (i : Nat) r u, rc[i]? = some r → vals[i]? = some u → ∃ d, C1.ρ (objOff (countF ob.shape) ob.objs o + i) = d ∧ CellOk w 0 S τ r u d := by
    intro o rc ho
    have hol : o < oo.length := by rw [hin.len]; exact (List.getElem?_eq_some_iff.1 ho).1
    obtain ⟨vals, T, h1, h2, h3, h4, h5⟩ := hin.objs o rc _ ho (List.getElem?_eq_getElem hol)
    refine ⟨_, vals, T, List.getElem?_eq_getElem hol, h1, h2, h5, fun i r u hr hu => ?_⟩
    have hil : i < oo[o].length := by rw [h3]; exact (List.getElem?_eq_some_iff.1 hr).1
    exact ⟨_, hρo o i _ _ (List.getElem?_eq_getElem hol) (List.getElem?_eq_getElem hil), h4 i r u _ hr hu (List.getElem?_eq_getElem hil)⟩
  have hliveS : ∀ g x, (St.startO sig ob).live g = some x → ∃ (o c : Nat) (rc : List RCell) (t : Ty) (j : Nat) (T : TypeId), ob.objs[o]? = some rc ∧ rc[c]? = some (t, some (j, T)) ∧ g = (0, j) ∧ x = (.var (objOff (countF ob.shape) ob.objs o + c), T, t) := by
    intro g x hx
    have hx' : updL (fun _ => none) (varLive (countF ob.shape) ob.objs.flatten) g = some x := hx
    unfold updL at hx'
    split at hx'
    · rename_i y hy
      subst hx'
      obtain ⟨i, r, hr, hm⟩ := varLive_mem (lk_mem hy)
      obtain ⟨o, c, rc, h1, h2, h3⟩ := flatten_get hr
      obtain ⟨t, _ | ⟨j, T⟩⟩ := r
      · simp [cellLive] at hm
      · simp only [cellLive, List.mem_singleton, Prod.mk.injEq, Option.some.injEq] at hm
        obtain ⟨rfl, rfl⟩ := hm
        exact ⟨o, c, rc, t, j, T, h1, h2, rfl, by rw [h3]; unfold objOff; rw [Nat.add_assoc]⟩
    · cases hx'
  have hidxm : ∀ (o c : Nat) rc t j T, ob.objs[o]? = some rc → rc[c]? = some (t, some (j, T)) → j ∈ ob.inIdx := by
    intro o c rc t j T h1 h2
    unfold Ob.inIdx
    refine List.mem_flatMap.2 ⟨rc, List.mem_of_getElem? h1, ?_⟩
    unfold rcIdx
    exact List.mem_filterMap.2 ⟨_, List.mem_of_getElem? h2, rfl⟩
  have hownS : ∀ g e T t, (St.startO sig ob).live g = some (e, T, t) → OwnOk C1 w 0 G1 g e T t := by
    intro g e T t hx
    obtain ⟨o, c, rc, t', j, T', h1, h2, rfl, he⟩ := hliveS g _ hx
    simp only [Prod.mk.injEq] at he
    obtain ⟨rfl, rfl, rfl⟩ := he
    obtain ⟨cells, vals, T0, _, _, h3, _, h4⟩ := hcell o rc h1
    have hcl : c < vals.length := by rw [h3]; exact (List.getElem?_eq_some_iff.1 h2).1
    obtain ⟨d, hd, hck⟩ := h4 c _ _ h2 (List.getElem?_eq_getElem hcl)
    obtain ⟨_, hco⟩ := hck
    exact hco.ok (C := C1) (G := G1) (g := (0, j)) hpos (by simpa [E.lt] using hNlt o c rc _ h1 h2) hd rfl rfl
  have hstart : Sim fn.ntmps w S1 C1 G1 (St.startO sig ob) ⟨vs.toArray ++ Array.replicate (fn.ntmps - vs.length) undef, []⟩ w := by
    refine ⟨⟨BelowX.refl _ _, fun _ _ h => h, fun _ _ _ => rfl, ?_, ?_, hin.lt, fun _ _ h => .inl h, ?_, ?_, ?_, hownS, ?_, ?_, ?_, fun h => h.elim, fun h => h.elim⟩, ?_, ?_, rfl⟩
    · intro i b hi
      simp only [S1] at hi
      split at hi
      · rename_i hlt
        injection hi with hi
        exact ⟨by show i < sig.params.length; omega, hi⟩
      · cases hi
    · exact fun _ _ _ => trivial
    · intro o x hx
      simp only [St.startO, Option.map_eq_some_iff] at hx
      obtain ⟨rc, hrc, _⟩ := hx
      have := (List.getElem?_eq_some_iff.1 hrc).1
      show o < sig.params.length; omega
    · intro o ro cs' hx
      simp only [St.startO, Option.map_eq_some_iff, Prod.mk.injEq] at hx
      obtain ⟨rc, hrc, rfl, rfl⟩ := hx
      have hol := (List.getElem?_eq_some_iff.1 hrc).1
      obtain ⟨cells, vals, T, _, h1, h2, h3, h4⟩ := hcell o rc hrc
      refine ⟨.inr ⟨.inl ⟨o, hol, rfl⟩, o, by simp only [S1]; rw [if_pos hol]⟩, ?_, ⟨vals, T, h1, by rw [varCells_len, h2], ?_⟩, by simpa using h3⟩
      · rw [List.all_eq_true]
        intro y hy
        obtain ⟨j, hj⟩ := List.getElem?_of_mem hy
        rw [varCells_get] at hj
        simp only [Option.map_eq_some_iff] at hj
        obtain ⟨r, hr, rfl⟩ := hj
        have := List.all_eq_true.1 (List.all_eq_true.1 hscal rc (List.mem_of_getElem? hrc)) r (List.mem_of_getElem? hr)
        obtain ⟨t, _ | ⟨j0, T0⟩⟩ := r
        · exact this
        · cases hej : exN j0 <;> simp [cellSC, hej, SC.scalar]
      · intro i y u hy hu
        rw [varCells_get] at hy
        simp only [Option.map_eq_some_iff] at hy
        obtain ⟨r, hr, rfl⟩ := hy
        obtain ⟨d, hd, hck⟩ := h4 i r u hr hu
        exact cellSC_ok (C := C1) (G := G1) (e := .var (objOff (countF ob.shape) ob.objs o + i)) hck hpos (by simpa [E.lt] using hNlt o i rc r hrc hr) hd (fun _ => rfl) true
    · intro i j x y hi hj he
      simp only [St.startO, Option.map_eq_some_iff] at hi hj
      obtain ⟨_, hi, _⟩ := hi
      obtain ⟨_, hj, _⟩ := hj
      exact hin.inj i j (List.getElem?_eq_some_iff.1 hi).1 (List.getElem?_eq_some_iff.1 hj).1 he
    · intro g x b hx hgb
      obtain ⟨o, c, rc, t, j, T, h1, h2, rfl, _⟩ := hliveS g x hx
      exact .inr (.inr ⟨j, hidxm o c rc t j T h1 h2, hgb⟩)
    · intro g g' x y b hx hy hgb hgb'
      obtain ⟨o, c, rc, t, j, T, h1, h2, rfl, _⟩ := hliveS g x hx
      obtain ⟨o', c', rc', t', j', T', h1', h2', rfl, _⟩ := hliveS g' y hy
      rw [hin.own j j' b (hidxm _ _ _ _ _ _ h1 h2) (hidxm _ _ _ _ _ _ h1' h2') hgb hgb']
    · intro g o x y b hx hy hgb
      obtain ⟨o', c, rc, t, j, T, h1, h2, rfl, _⟩ := hliveS g x hx
      simp only [St.startO, Option.map_eq_some_iff] at hy
      obtain ⟨_, hy, _⟩ := hy
      exact hin.ownbox j o b (hidxm _ _ _ _ _ _ h1 h2) (List.getElem?_eq_some_iff.1 hy).1 hgb
    · intro t cnd s hts
      simp only [St.startO] at hts
      split at hts
      · rename_i hsh
        simp only [Option.map_eq_some_iff, Prod.mk.injEq] at hts
        obtain ⟨ty, hty', rfl, rfl⟩ := hts
        obtain ⟨u, hu, hbb⟩ := hag t false hsh
        simp only [Bool.false_eq_true, if_false] at hbb
        obtain ⟨d, hd, hrep⟩ := hbb
        have hdl : countF (ob.shape.take t) < dd.length := (List.getElem?_eq_some_iff.1 hd).1
        have hdd : ds[countF (ob.shape.take t)]? = some d := by show (dd ++ oo.flatten)[_]? = _; rw [List.getElem?_append_left hdl]; exact hd
        obtain ⟨x, hx, hxh⟩ := hasL_get hty _ ty (by rw [Ty.toL_ofL]; exact hty')
        have hxd : x = d := by
          have : ds[countF (ob.shape.take t)]? = some x := hx
          rw [hdd] at this; injection this with this; exact this.symm
        subst hxd
        have hden : den C1.ρ (.var (countF (ob.shape.take t))) = x := toL_getD hdd
        have hltp : countF (ob.shape.take t) < sig.params.length := (List.getElem?_eq_some_iff.1 hty').1
        refine ⟨u, ?_, by simp, by simpa [SV.lt, SC.lt, E.lt] using hltp, ?_⟩
        · have htl : t < vs.length := (List.getElem?_eq_some_iff.1 hu).1
          rw [Array.getElem?_append_left (by simpa using htl)]; simpa using hu
        · simp only [condB, List.all_nil, if_true]
          exact ⟨by simpa [E.lt] using hltp, by rw [hden]; exact hrep, by rw [hden]; exact hxh⟩
      · rename_i hsh
        injection hts with hts
        simp only [Prod.mk.injEq] at hts
        obtain ⟨rfl, rfl⟩ := hts
        obtain ⟨u, hu, hbb⟩ := hag t true hsh
        simp only [if_true, Nat.zero_add] at hbb
        refine ⟨u, ?_, by simp, rfl, ?_⟩
        · have htl : t < vs.length := (List.getElem?_eq_some_iff.1 hu).1
          rw [Array.getElem?_append_left (by simpa using htl)]; simpa using hu
        · simp only [condB, List.all_nil, if_true]
          refine ⟨?_, hbb⟩
          show countT (ob.shape.take t) < sig.params.length
          have := countT_lt hsh
          omega
      · cases hts
    · simp; omega
  refine calls_of_wp hf hb ?_
  have hcond := hc ds hty hpre
  rw [← hv] at hcond
  refine vc_sound (w0 := w) (S0 := S1) (N := ⟨P, cs, fn.ntmps, anns, [], []⟩) hmix hcon (fun k sig ob hk hob hpl => (noPl_ok hnp hk hob hpl).elim) ⟨fun h => h.elim, fun h => h.elim⟩ (fun _ _ h => by cases h) (fun _ _ h => by cases h) (fun h => by have : cs.fr = 2 := h; omega) c _ _ _ 0 _ [] _ hcond rfl (fun i b h => ?_) ?_ _ w G1 ?_
  · simp only [S1] at h
    split at h
    · omega
    · cases h
  · intro ex σ' p' d' ρ' stk' a' w' G' _ _ _ _ hk hs
    have fin : (retVCo P sig ob fn σ').holds Φ Pre (fun d => d = Φ0 ds) ρ' stk' → a'.defers = [] ∧ ∃ v, (results fn a'.tmps).run P w' = .ok v w' ∧ ∃ v0 S' τ' βn, Ending.returned v = .returned v0 ∧ ObjOut w S sig ob β τ v0 (Φ0 ds) w' S' τ' βn := by
      intro hk
      refine ⟨hs.defers, ?_⟩
      unfold retVCo at hk
      split at hk
      · rename_i e l fr hres
        split at hk
        · rename_i ess ls hobjs
          split at hk
          · rename_i hok
            have hok0 := hok
            unfold ownOkB at hok
            simp only [Bool.and_eq_true, decide_eq_true_eq] at hok
            obtain ⟨hnt, hnj⟩ := hok
            obtain ⟨q1, q2, q3, q4, q5, q6⟩ := oObjs_ok hobjs
            have hd : den ρ' (.un .tup (.cons e (.ofL (ess.map fun es => .un .agg (.ofL es))))) = Φ0 ds := hk
            have hd' : Φ0 ds = .tup (den ρ' e :: (ess.map fun es => es.map (den ρ')).map .agg) := by
              rw [← hd]
              simp only [den, den_ofL, U.den, D.toL, List.map_map]
              congr 2
              apply List.map_congr_left
              intro es _
              simp only [Function.comp, den, den_ofL, U.den, D.toL]
            -- the result itself
            have hpinβ : ∀ o, o < ob.objs.length → G'.β o = β o := fun o ho => (hs.m.pin o (β o) (by simp only [S1]; rw [if_pos ho])).2
            have resPart : ∃ v0, (results fn a'.tmps).run P w' = .ok v0 w' ∧ (∀ j g, (j, some g) ∈ l → ∃ z, σ'.live g = some z) ∧ (if ob.fresh then l = [] ∧ ∃ id, fr = [id] ∧ ob.objs.length ≤ id ∧ v0 = .pointer (some ⟨G'.β id, 0, none⟩) else fr = [] ∧ ownIdx sig.res = l.map (·.1) ∧ ResOk w' 0 G'.S (τOf G' (l ++ ls)) sig.res v0 (den ρ' e)) := by
              unfold resO at hres
              split at hres
              · rename_i hfr
                split at hres
                · rename_i t hrt
                  split at hres
                  · rename_i id ht
                    split at hres
                    · rename_i hid
                      injection hres with hres; simp only [Prod.mk.injEq] at hres; obtain ⟨rfl, rfl, rfl⟩ := hres
                      obtain ⟨u, h1, _, _, h2⟩ := hs.t t _ _ ht
                      simp only [condB, List.all_nil, if_true] at h2
                      obtain ⟨_, rfl⟩ := h2
                      refine ⟨_, ?_, by simp, by rw [if_pos hfr]; exact ⟨rfl, id, rfl, hid, rfl⟩⟩
                      have := run_results (P := P) (w := w') (a := a') (fn := fn) (vs := [.pointer (some ⟨G'.β id, 0, none⟩)]) (by rw [hrt, List.mapM_cons, Sem.run_bind, show (readRes a' (.tmp t)).run P w' = .ok (.pointer (some ⟨G'.β id, 0, none⟩)) w' from (by simp [readRes, h1]), Result.andThen_ok, List.mapM_nil]; rfl)
                      exact this
                    · cases hres
                  · cases hres
                · cases hres
              · rename_i hfr
                split at hres
                · rename_i es l' hret
                  injection hres with hres; simp only [Prod.mk.injEq] at hres; obtain ⟨rfl, rfl, rfl⟩ := hres
                  obtain ⟨us, h1, h2, h3, h4, h5⟩ := run_retComps (L := l' ++ ls) hs hnj hret (fun x hx => List.mem_append_left _ hx)
                  refine ⟨_, run_results h1, retComps_live hret, ?_⟩
                  rw [hfr]
                  simp only [Bool.false_eq_true, if_false]
                  refine ⟨trivial, own_retComps hret, ?_⟩
                  split
                  · rename_i r e0 hres'
                    rw [hres'] at h2 h5 ⊢
                    obtain ⟨u, rfl⟩ : ∃ u, us = [u] := List.length_eq_one_iff.1 h2
                    exact .inl ⟨r, rfl, h5 0 r u e0 rfl rfl rfl⟩
                  · rename_i es1 _ es2 hne
                    have hl1 : sig.res.length ≠ 1 := by
                      intro h
                      obtain ⟨r, hr⟩ := List.length_eq_one_iff.1 h
                      obtain ⟨e, he⟩ := List.length_eq_one_iff.1 (h3.trans h)
                      exact hne r e hr he
                    have hmt : resVal us = .tuple us.toArray := by
                      match us, h2 with
                      | [], _ => rfl
                      | [u], h2 => exact absurd h2.symm hl1
                      | _ :: _ :: _, _ => rfl
                    rw [hmt]
                    refine .inr ⟨hl1, us, es1.map (den ρ'), rfl, by simp only [den, den_ofL, U.den, D.toL], h2, by simp [h3], fun i r u y hr hu hy => ?_⟩
                    simp only [List.getElem?_map, Option.map_eq_some_iff] at hy
                    obtain ⟨e, he, rfl⟩ := hy
                    exact h5 i r u e hr hu he
                · cases hres
            obtain ⟨v0, hrun, hll, hpart⟩ := resPart
            have hlive : ∀ j g, (j, some g) ∈ l ++ ls → ∃ z, σ'.live g = some z := fun j g hm => (List.mem_append.1 hm).elim (hll j g) (q5 j g)
            have hfrl : fr.length = ob.fresh.toNat := by
              cases hfr : ob.fresh with
              | true => rw [hfr] at hpart; simp only [if_true] at hpart; obtain ⟨_, id, rfl, _⟩ := hpart; rfl
              | false => rw [hfr] at hpart; simp only [Bool.false_eq_true, if_false] at hpart; rw [hpart.1]; rfl
            let βn : Nat := G'.β (fr.headD 0)
            have hat : ∀ (i : Nat) id, (List.range ob.objs.length ++ fr)[i]? = some id → obAt ob β βn i = G'.β id := by
              intro i id hi
              unfold obAt
              by_cases hil : i < ob.objs.length
              · rw [List.getElem?_append_left (by simpa using hil)] at hi
                simp [hil] at hi
                subst hi
                rw [if_pos hil, hpinβ i hil]
              · rw [List.getElem?_append_right (by simp; omega)] at hi
                rw [if_neg hil]
                have h0 : i - (List.range ob.objs.length).length = 0 := by
                  have := (List.getElem?_eq_some_iff.1 hi).1
                  rw [hfrl] at this
                  cases hfr : ob.fresh <;> rw [hfr] at this <;> simp at this ⊢ <;> omega
                rw [h0] at hi
                show G'.β (fr.headD 0) = _
                cases fr with
                | nil => simp at hi
                | cons x r => simp at hi; subst hi; rfl
            have hout : outIdx sig ob = (l ++ ls).map (·.1) := by
              cases hfr : ob.fresh with
              | true =>
                rw [hfr] at hpart hfres
                simp only [if_true] at hpart
                have hre : sig.res = [] := by simpa using hfres
                rw [hpart.1]
                unfold outIdx
                rw [hre]
                exact q3
              | false =>
                rw [hfr] at hpart
                simp only [Bool.false_eq_true, if_false] at hpart
                unfold outIdx
                rw [List.map_append, hpart.2.1, q3]
            have hidN : ∀ i, i < ob.outs.length → ∃ id, (List.range ob.objs.length ++ fr)[i]? = some id := by
              intro i hi
              exact ⟨_, List.getElem?_eq_getElem (by rw [q2]; exact hi)⟩
            refine ⟨v0, hrun, v0, G'.S, τOf G' (l ++ ls), βn, rfl, ⟨hs.m.below, hs.m.foot0, hs.m.footlt, hs.m.footnew, hs.m.keep, ⟨den ρ' e, ess.map fun es => es.map (den ρ'), hd', by simp [q1], ?_, ?_⟩, ?_, ?_, ?_⟩⟩
            · cases hfr : ob.fresh with
              | true =>
                rw [hfr] at hpart
                simp only [if_true] at hpart ⊢
                obtain ⟨_, id, rfl, hid, hv0⟩ := hpart
                refine ⟨hv0, ?_⟩
                show w.heap.size ≤ G'.β id
                obtain ⟨cs1, hcs1⟩ := q4 id (by simp)
                rcases (hs.m.box _ _ _ hcs1).1 with h | ⟨_, i, hi⟩
                · exact h
                · simp only [S1] at hi
                  split at hi
                  · rename_i hin'
                    injection hi with hi
                    obtain ⟨cs2, hcs2⟩ := q4 i (by simp [hin'])
                    have := hs.m.inj i id _ _ hcs2 hcs1 ((hpinβ i hin').trans hi)
                    omega
                  · cases hi
              | false =>
                rw [hfr] at hpart
                simp only [Bool.false_eq_true, if_false] at hpart ⊢
                exact hpart.2.2
            · intro i rc cells h1 h2
              simp only [List.getElem?_map, Option.map_eq_some_iff] at h2
              obtain ⟨es, hes, rfl⟩ := h2
              obtain ⟨id, hid⟩ := hidN i (List.getElem?_eq_some_iff.1 h1).1
              obtain ⟨cs1, lo, r1, r2, r3⟩ := q6 i rc id es h1 hid hes
              obtain ⟨_, _, ⟨us, T, b3, b4⟩, b5⟩ := hs.m.box _ _ _ r1
              obtain ⟨k1, k2, k3⟩ := retCells_ok (L := l ++ ls) hs.m hnj r2 b4 (fun x hx => List.mem_append_right _ (r3 x hx))
              rw [hat i id hid]
              refine ⟨us, T, b3, k2, by simp [k1], fun j r u d hr hu hd => ?_, by simpa using b5⟩
              simp only [List.getElem?_map, Option.map_eq_some_iff] at hd
              obtain ⟨e1, he1, rfl⟩ := hd
              exact k3 j r u e1 hr hu he1
            · intro j b hj hb
              rw [hout] at hj
              obtain ⟨g, hgl, hgb⟩ := own_tag hok0 hj hb
              obtain ⟨z, hz⟩ := hlive _ _ hgl
              exact hs.m.ownnew g z b hz hgb
            · intro j k b hj hk' hbj hbk
              rw [hout] at hj hk'
              exact own_apart hs.m hok0 hlive hj hk' hbj hbk
            · intro j i b hj hi hb
              rw [hout] at hj
              obtain ⟨g, hgl, hgb⟩ := own_tag hok0 hj hb
              obtain ⟨z, hz⟩ := hlive _ _ hgl
              obtain ⟨id, hid⟩ := hidN i hi
              obtain ⟨cs1, hcs1⟩ := q4 id (List.mem_of_getElem? hid)
              rw [hat i id hid]
              exact hs.m.ownbox g id z _ b hz hcs1 hgb
          · exact hk.elim
        · exact hk.elim
      · exact hk.elim
    cases ex with
    | normal => exact fin hk
    | ret => exact fin hk
    | exit i => exact hk.elim
  · exact hstart
end
end Go.Eng
