/-
  A law: its contract says 'true'; hence its statement.
-/
import Derived.Test.YtjpkeliliahjoaaEngU
namespace Go.Eng
open Go Go.RowKit Go.ChangeShapes Go.WideShapes

def argTys (P : Program) (n : Nat) : List TypeId → Option (List Ty)
  | [] => some []
  | t :: ts => match argTy P n t, argTys P n ts with
    | some x, some xs => some (x :: xs)
    | _, _ => none

section
variable {K : Nat} {w : World} {S : Foot} {H : Type} {enc : TypeId × Value → H} {P : Program} {base b0 : Nat} {spare : Nat → Bool} {held : Bool} {r : Reach}

theorem okWide_cells {T : TypeId} {v : Value} (hok : Value.okWide P w r b0 T v) (ha : aggT P T = false) : v.cells.toList = [v] := by
  have : ∀ cs, v ≠ .agg cs := by
    rintro cs rfl
    unfold Value.okWide at hok
    unfold aggT at ha
    split at hok
    · simp_all
    · simp_all
    · unfold Cell.okWide at hok
      split at hok <;> simp_all [Cell.ok]
  cases v <;> first | rfl | exact absurd rfl (this _)

theorem okWide_agg {T : TypeId} {v : Value} (hok : Value.okWide P w r b0 T v) (ha : aggT P T = true) : ∃ cs : List Value, v = .agg cs.toArray := by
  unfold Value.okWide at hok
  unfold aggT at ha
  split at hok
  · obtain ⟨cs, rfl, _⟩ := hok; exact ⟨cs.toList, rfl⟩
  · obtain ⟨cs, rfl, _⟩ := hok; exact ⟨cs.toList, rfl⟩
  · simp_all

theorem arg_rep {n : Nat} {T : TypeId} {v : Value} {d : DataW H} {ps : List MemPlace} {ty : Ty} (hok : Value.okWide P w r b0 T v) (hd : DataW.Trod enc P w base spare held T v d ps) (hty : argTy P n T = some ty)
    (hS : ∀ b o, MemPlace.cell b o ∈ ps → S b o) (hwt : ∀ z ∈ d.weights P T, z ≤ K) : ∃ x : D, Rep w S v x ∧ HasK K ty x ∧ x.wt ≤ dwt d := by
  unfold argTy at hty
  rw [Option.bind_eq_some_iff] at hty
  obtain ⟨ts, hts, he⟩ := hty
  obtain ⟨m, hm⟩ := hd
  obtain ⟨ds, hr, hk⟩ := trod_rep n m T _ _ ts hts hm hS hwt
  obtain ⟨x, hx, _, h1, h2, h3⟩ := elem_of he hr
  refine ⟨x, ?_, hx, by rw [h3]; exact hk⟩
  cases ha : aggT P T with
  | true =>
    obtain ⟨cs, rfl⟩ := okWide_agg hok ha
    rw [h1 ha]
    have hr' : R3 K w S cs ds ts := hr
    exact .agg cs ds (by rw [hr'.len.1, hr'.len.2]) hr'.get
  | false =>
    rw [okWide_cells hok ha, h2 ha] at hr
    exact hr.get 0 v x rfl rfl

theorem args_rep {n : Nat} : ∀ {ts : List TypeId} {vs : List Value} {ds : List (DataW H)} {ps : List MemPlace} {tys : List Ty}, (∀ (j : Nat) t v, ts[j]? = some t → vs[j]? = some v → Value.okWide P w r b0 t v) →
    DataW.TrodAll enc P w base spare held ts vs ds ps → argTys P n ts = some tys → (∀ b o, MemPlace.cell b o ∈ ps → S b o) → (∀ z ∈ DataW.weightsEach P ts ds, z ≤ K) → ∃ xs : List D, R3 K w S vs xs tys ∧ wtL xs ≤ dwtL ds
  | [], [], [], ps, tys, _, _, ht, _, _ => by
    simp only [argTys, Option.some.injEq] at ht
    subst ht
    exact ⟨[], .nil, Nat.zero_le _⟩
  | t :: ts, v :: vs, d :: ds, ps, tys, hok, ⟨p, q, h1, h2, e⟩, ht, hS, hwt => by
    unfold DataW.weightsEach at hwt
    simp only [argTys] at ht
    split at ht
    · rename_i x xs hx hxs
      injection ht with ht; subst ht
      obtain ⟨a, ha, hta, hka⟩ := arg_rep (hok 0 t v rfl rfl) h1 hx (fun b o hb => hS b o (by rw [e]; exact List.mem_append_left _ hb)) (fun z hz => hwt z (List.mem_append_left _ hz))
      obtain ⟨as, has, hks⟩ := args_rep (fun j t v h1 h2 => hok (j + 1) t v (by simpa using h1) (by simpa using h2)) h2 hxs (fun b o hb => hS b o (by rw [e]; exact List.mem_append_right _ hb)) (fun z hz => hwt z (List.mem_append_right _ hz))
      exact ⟨a :: as, .cons ha hta has, by simp only [wtL, dwtL]; omega⟩
    · cases ht
  | [], _ :: _, _, _, _, _, h, _, _, _ | [], [], _ :: _, _, _, _, h, _, _, _ | _ :: _, [], _, _, _, _, h, _, _, _ | _ :: _, _ :: _, [], _, _, _, h, _, _, _ => h.elim

theorem trodAll_below (hl : laidOutB P = true) {W W' : World} (hb : Below W.heap.size W W') : ∀ {ts : List TypeId} {vs : List Value} {ds : List (DataW H)} {ps : List MemPlace}, (ts.all fun t => P.readableRec t && decide (t < P.types.size)) = true →
    DataW.TrodAll enc P W 0 (fun _ => true) true ts vs ds ps → (∀ x ∈ ps, x.block < W.heap.size) → DataW.TrodAll enc P W' 0 (fun b => decide (b < W.heap.size)) true ts vs ds ps
  | [], [], [], _, _, h, _ => h
  | t :: ts, v :: vs, d :: ds, ps, hr, ⟨p, q, h1, h2, e⟩, hlt => by
    rw [List.all_cons, Bool.and_eq_true, Bool.and_eq_true, decide_eq_true_eq] at hr
    exact ⟨p, q, Below.trod hl hr.1.1 hr.1.2 h1 hb (fun x hx => hlt x (by rw [e]; exact List.mem_append_left _ hx)),
      trodAll_below hl hb hr.2 h2 (fun x hx => hlt x (by rw [e]; exact List.mem_append_right _ hx)), e⟩
  | [], _ :: _, _, _, _, h, _ | [], [], _ :: _, _, _, h, _ | _ :: _, [], _, _, _, h, _ | _ :: _, _ :: _, [], _, _, h, _ => h.elim

theorem law_calls_wt {f : Nat} {fn : Func} {sig : Sig} {s : ChangeSpec} {apart : Bool} {W : World} {args : Array Value} {ds gs : List (DataW H)} {before : List MemPlace} {tb : TypeId} {Pre : List D → Prop} {Φ : List D → D} (n : Nat)
    (hp : PureFn P f sig Pre Φ) (hl : laidOutB P = true) (hread : (fn.params.toList.all fun t => P.readableRec t && decide (t < P.types.size)) = true) (hty : argTys P n fn.params.toList = some sig.params)
    (hres : sig.res = [(false, [(.bool, none)])]) (hrt : fn.resultTypes = #[tb]) (htb : P.underlying tb = some .bool) (hvars : s.vars = [])
    (hfn : s.fn H ds = { results := [.lit (.bool true)], args := ds })
    (hval : ∀ (j : Nat) t v, fn.params[j]? = some t → args[j]? = some v → Value.okWide P W r b0 t v)
    (hW : DataW.Whole enc P fn.params.toList s.vars apart W args.toList ds gs before)
    (hwt : (DataW.weightsEach P (fn.params.toList ++ s.plain.varTypes P) (ds ++ gs)).all (· ≤ reachBytes) = true)
    (hpre : ∀ xs, HasLK reachBytes (.ofL sig.params) xs → wtL xs ≤ dwtL (ds ++ gs) → Pre xs ∧ Φ xs = .bool true) (hob : sig.ob = none := by rfl) :
    Calls P f args W fun e W' => ∃ v, e = .returned v ∧ s.post enc P fn apart true false false W args v W' := by
  have hlt := hW.lt
  have hW0 := hW
  obtain ⟨p, q, hA, hV, rfl, _, _⟩ := hW
  rw [hvars] at hV
  obtain ⟨rfl, rfl⟩ : gs = [] ∧ q = [] := by
    cases gs with
    | nil => exact ⟨rfl, hV⟩
    | cons a b => exact hV.elim
  have hvt : s.plain.varTypes P = [] := by simp [ChangeSpec.plain, DataSpec.varTypes, hvars]
  rw [hvt, List.append_nil, List.append_nil] at hwt
  have hwt' : ∀ z ∈ DataW.weightsEach P fn.params.toList ds, z ≤ reachBytes := fun z hz => by
    simpa using List.all_eq_true.1 hwt z hz
  have h8 : reachBytes ≤ 140737488355328 := by decide
  obtain ⟨xs, hr, hkk⟩ := args_rep (S := fun b o => MemPlace.cell b o ∈ p) (fun j t v h1 h2 => hval j t v (by simpa using h1) (by simpa using h2)) hA hty (fun _ _ h => h) hwt'
  obtain ⟨hp1, hp2⟩ := hpre xs hr.has (by rw [List.append_nil]; exact hkk)
  have hc := hp.calls hob W (fun b o => MemPlace.cell b o ∈ p) args.toList xs (fun b o hb => hlt (.cell b o) (List.mem_append_left _ hb)) (by rw [hr.len.1, hr.len.2]) hr.get ((hasP_mono h8 _).2 _ hr.has) hp1
  refine hc.mono fun e W' h => ?_
  obtain ⟨v, S', τ, rfl, hb, _, _, _, hro, _⟩ := h
  rw [hres] at hro
  rcases hro with ⟨x, hx, hco⟩ | ⟨hne, _⟩
  · simp only [List.cons.injEq, and_true] at hx
    subst hx
    obtain ⟨c, hc1, hc2⟩ := hco
    simp only [List.cons.injEq, and_true] at hc1
    subst hc1
    obtain ⟨hc2, _⟩ := hc2
    rw [hp2] at hc2
    have hv := hc2.inv_bool
    subst hv
    have hdg : (s.fn H (ds ++ [])) = { results := [.lit (.bool true)], args := ds } := by rw [List.append_nil, hfn]
    refine ⟨_, rfl, ds, [], _, [], p, [], hW0, ?_, ?_, ?_, hb.frame _, fun h => by cases h⟩
    · rw [hdg, hrt]
      exact ⟨[], [], ⟨1, by simp [DataW.trod, Value.cells, htb]⟩, rfl, rfl⟩
    · rw [hdg]
      exact trodAll_below hl hb hread hA (fun x hx => hlt x (List.mem_append_left _ hx))
    · rw [hdg, hvars]; rfl
  · exact absurd rfl hne
theorem law_calls {f : Nat} {fn : Func} {sig : Sig} {s : ChangeSpec} {apart : Bool} {W : World} {args : Array Value} {ds gs : List (DataW H)} {before : List MemPlace} {tb : TypeId} {Pre : List D → Prop} {Φ : List D → D} (n : Nat)
    (hp : PureFn P f sig Pre Φ) (hl : laidOutB P = true) (hread : (fn.params.toList.all fun t => P.readableRec t && decide (t < P.types.size)) = true) (hty : argTys P n fn.params.toList = some sig.params)
    (hres : sig.res = [(false, [(.bool, none)])]) (hrt : fn.resultTypes = #[tb]) (htb : P.underlying tb = some .bool) (hvars : s.vars = [])
    (hfn : s.fn H ds = { results := [.lit (.bool true)], args := ds })
    (hval : ∀ (j : Nat) t v, fn.params[j]? = some t → args[j]? = some v → Value.okWide P W r b0 t v)
    (hW : DataW.Whole enc P fn.params.toList s.vars apart W args.toList ds gs before)
    (hwt : (DataW.weightsEach P (fn.params.toList ++ s.plain.varTypes P) (ds ++ gs)).all (· ≤ reachBytes) = true)
    (hpre : ∀ xs, HasLK reachBytes (.ofL sig.params) xs → Pre xs ∧ Φ xs = .bool true) (hob : sig.ob = none := by rfl) :
    Calls P f args W fun e W' => ∃ v, e = .returned v ∧ s.post enc P fn apart true false false W args v W' :=
  law_calls_wt n hp hl hread hty hres hrt htb hvars hfn hval hW hwt (fun xs h _ => hpre xs h) hob
end
end Go.Eng
