/-
  What an operation's effect hangs on.
-/
import Derived.Test.YtjpkeliliahjoaaEngN
namespace Go.Eng
open Go Go.RowKit

section
variable {P : Program} {σ σ' : St} {o : Oper} {pc : Cond}

/-- Two states hold the same in an operation's operands. -/
def SameOn (P : Program) (σ σ' : St) (xs : List Operand) : Prop := ∀ x ∈ xs, ∀ (q : Cond) (hint : TypeId), getV P σ' q x hint = getV P σ q x hint

theorem getV_tm {t : Nat} (h : σ'.tm t = σ.tm t) (q : Cond) (hint : TypeId) : getV P σ' q (.tmp t) hint = getV P σ q (.tmp t) hint := by
  simp only [getV, opnd, h]

theorem sameOn_of {xs : List Operand} (h : ∀ t, Operand.tmp t ∈ xs → σ'.tm t = σ.tm t) : SameOn P σ σ' xs := by
  intro x hx q hint
  cases x with
  | tmp t => exact getV_tm (h t hx) q hint
  | const v => cases v <;> simp only [getV, opnd]
  | global g => simp only [getV, opnd]
  | func f => simp only [getV, opnd]

theorem SameOn.d {xs : List Operand} (h : SameOn P σ σ' xs) {x : Operand} (hx : x ∈ xs) (q : Cond) (hint : TypeId) : getD_ P σ' q x hint = getD_ P σ q x hint := by
  unfold getD_; rw [h x hx]

theorem argsE_congr : ∀ {xs : List Operand} {ts : List TypeId}, SameOn P σ σ' xs → argsE P σ' pc xs ts = argsE P σ pc xs ts
  | [], [], _ => rfl
  | [], _ :: _, _ => rfl
  | _ :: _, [], _ => rfl
  | x :: xs, t :: ts, h => by
    simp only [argsE]
    rw [h.d (List.mem_cons_self ..), argsE_congr (fun y hy => h y (List.mem_cons_of_mem _ hy))]

theorem partsSC_congr (hint : Nat → TypeId) : ∀ {xs : List (Nat × Operand)}, SameOn P σ σ' (xs.map (·.2)) → partsSC P σ' pc hint xs = partsSC P σ pc hint xs
  | [], _ => rfl
  | (i, x) :: xs, h => by
    simp only [partsSC]
    rw [h x (by simp), partsSC_congr hint (fun y hy => h y (by simp only [List.map_cons]; exact List.mem_cons_of_mem _ hy))]

theorem capsE_congr : ∀ {xs : List Operand} {es : List (E × Ty)} {fz : List (Nat × List SC)}, SameOn P σ σ' xs → capsE P σ pc xs = some (es, fz) → (∀ x ∈ fz, σ'.hp x.1 = σ.hp x.1) → capsE P σ' pc xs = some (es, fz)
  | [], es, fz, _, h, _ => h
  | x :: xs, es, fz, hs, h, hhp => by
    simp only [capsE] at h ⊢
    rw [hs x (List.mem_cons_self ..)]
    have hs' : SameOn P σ σ' xs := fun y hy => hs y (List.mem_cons_of_mem _ hy)
    split at h
    · rename_i id es' fz' hg hr
      split at h
      · rename_i ro cs hid
        split at h
        · rename_i ds ts hds
          injection h with h; simp only [Prod.mk.injEq] at h; obtain ⟨rfl, rfl⟩ := h
          rw [capsE_congr hs' hr (fun y hy => hhp y (List.mem_cons_of_mem _ hy))]
          simp only [hg]
          rw [hhp (id, cs) (by simp)]
          simp only [hid, hds]
        · cases h
      · cases h
    · rename_i e fs es' fz' hg hr
      injection h with h; simp only [Prod.mk.injEq] at h; obtain ⟨rfl, rfl⟩ := h
      rw [capsE_congr hs' hr hhp]
      simp only [hg]
    · cases h

theorem opPlain_congr {pl : Pl} {rd : List Nat} (hs : SameOn P σ σ' o.op.operands.toList) (h : opPlain P σ pc o = some (pl, rd)) (hhp : ∀ id ∈ rd, σ'.hp id = σ.hp id) : opPlain P σ' pc o = some (pl, rd) := by
  have e : ∀ {x : Option Pl} {y : Option Pl}, y = x → x.map (·, ([] : List Nat)) = some (pl, rd) → y.map (·, ([] : List Nat)) = some (pl, rd) := fun h1 h2 => h1 ▸ h2
  unfold opPlain at h ⊢
  split at h
  · rename_i t x ho
    rw [ho] at hs
    try simp only [ho]
    unfold opLoad at h ⊢
    simp only [ho] at h ⊢
    rw [hs x (by simp [Op.operands])]
    split at h
    · cases h
    · rename_i hc
      rw [if_neg hc]
      split at h
      · rename_i id off hx
        try simp only [hx]
        split at h
        · rename_i ro cs hid
          have hrd : rd = [id] := by
            split at h
            · split at h
              · split at h
                · injection h with h; simp only [Prod.mk.injEq] at h; exact h.2.symm
                · cases h
              · cases h
            · split at h
              · injection h with h; simp only [Prod.mk.injEq] at h; exact h.2.symm
              · cases h
          rw [hhp id (by rw [hrd]; simp), hid]
          exact h
        · cases h
      · rename_i hx; try simp only [hx]
        exact h
      · rename_i hx; try simp only [hx]
        exact h
      · rename_i hx; try simp only [hx]
        exact h
      · cases h
  · rename_i x ho; rw [ho] at hs; try simp only [ho]
    refine e ?_ h
    unfold opMove; simp only [ho]; rw [hs x (by simp [Op.operands])]
  · rename_i x ho; rw [ho] at hs; try simp only [ho]
    refine e ?_ h
    unfold opMove; simp only [ho]; rw [hs x (by simp [Op.operands])]
  · rename_i c x y ho; rw [ho] at hs; try simp only [ho]
    refine e ?_ h
    unfold opPick; simp only [ho]
    rw [hs.d (x := c) (by simp [Op.operands])]
    have h1 := fun q hint => hs.d (x := x) (by simp [Op.operands]) q hint
    have h2 := fun q hint => hs.d (x := y) (by simp [Op.operands]) q hint
    simp only [h1, h2]
  · rename_i op xt x y yt ho; rw [ho] at hs; try simp only [ho]
    refine e ?_ h
    unfold opBin2 opBinAdr opBin; simp only [ho]
    rw [hs.d (x := x) (by simp [Op.operands]), hs.d (x := y) (by simp [Op.operands]), hs x (by simp [Op.operands])]
  · rename_i op xt x ho; rw [ho] at hs; try simp only [ho]
    refine e ?_ h
    have h1 := fun q hint => hs.d (x := x) (by simp [Op.operands]) q hint
    unfold opUn; simp only [ho]
    cases op <;> simp only [h1]
  · rename_i s d x ho; rw [ho] at hs; try simp only [ho]
    refine e ?_ h
    unfold opUn; simp only [ho]
    rw [hs.d (x := x) (by simp [Op.operands])]
  · rename_i x j ho; rw [ho] at hs; try simp only [ho]
    refine e ?_ h
    unfold opExtract; simp only [ho]; rw [hs x (by simp [Op.operands])]
  · rename_i t x f ho; rw [ho] at hs; try simp only [ho]
    refine e ?_ h
    unfold opFieldAddr; simp only [ho]; rw [hs x (by simp [Op.operands])]
  · rename_i t x f ho; rw [ho] at hs; try simp only [ho]
    refine e ?_ h
    unfold opField; simp only [ho]; rw [hs x (by simp [Op.operands])]
  · rename_i t x i ho; rw [ho] at hs; try simp only [ho]
    refine e ?_ h
    have h1 := fun q hint => hs x (by simp [Op.operands]) q hint
    have h2 := fun q hint => hs.d (x := x) (by simp [Op.operands]) q hint
    have h3 := fun q hint => hs.d (x := i) (by simp [Op.operands]) q hint
    have e1 : opIndexSl P σ' pc o = opIndexSl P σ pc o := by
      unfold opIndexSl; simp only [ho]
      rw [h2, h3]
    have e2 : opIndexArr P σ' pc o = opIndexArr P σ pc o := by
      unfold opIndexArr; simp only [ho]
      split
      · rename_i ho' ; injection ho' with q1 q2 q3; subst q1; subst q2; rw [h1]
      · rfl
    unfold opIndexAddr; rw [e1, e2]
  · rename_i x ho; rw [ho] at hs; try simp only [ho]
    refine e ?_ h
    unfold opNil; simp only [ho]; rw [hs x (by simp [Op.operands])]
  · rename_i t x lo hi ho; rw [ho] at hs; try simp only [ho]
    refine e ?_ h
    unfold opSlice; simp only [ho]
    have h1 := fun q hint => hs.d (x := x) (by simp [Op.operands]) q hint
    have h2 := fun y (hy : y ∈ lo.toArray) q hint => hs.d (x := y) (by simp [Op.operands] at hy ⊢; simp [hy]) q hint
    have h3 := fun y (hy : y ∈ hi.toArray) q hint => hs.d (x := y) (by simp [Op.operands] at hy ⊢; simp [hy]) q hint
    cases lo with
    | none => cases hi with
      | none => simp only [h1]
      | some y => simp only [h1, h3 y (by simp)]
    | some z => cases hi with
      | none => simp only [h1, h2 z (by simp)]
      | some y => simp only [h1, h3 y (by simp), h2 z (by simp)]
  · rename_i t x lo hi mx hno ho; rw [ho] at hs; try simp only [ho]
    cases mx with
    | none => exact absurd rfl hno
    | some m =>
      refine e ?_ h
      unfold opSlice3; simp only [ho]
      have h1 := fun q hint => hs.d (x := x) (by simp [Op.operands]) q hint
      have h3 := fun y (hy : y ∈ hi.toArray) q hint => hs.d (x := y) (by simp [Op.operands] at hy ⊢; simp [hy]) q hint
      have h4 := fun q hint => hs.d (x := m) (by simp [Op.operands]) q hint
      cases lo with
      | some z => rfl
      | none => cases hi with
        | none => rfl
        | some y => simp only [h1, h3 y (by simp), h4]
  · rename_i t parts ho; rw [ho] at hs; try simp only [ho]
    refine e ?_ h
    unfold opBuild; simp only [ho]
    have h1 := fun hint => partsSC_congr (P := P) (σ := σ) (σ' := σ') (pc := pc) hint (xs := parts.toList) (by simpa [Op.operands] using hs)
    simp only [h1]
  · rename_i args argTypes ho; rw [ho] at hs
    have h1 : ∀ x ∈ args.toList, ∀ q hint, getD_ P σ' q x hint = getD_ P σ q x hint := fun x hx q hint => hs.d (by simp [Op.operands, Call.operands]; simpa using hx) q hint
    refine e ?_ h
    unfold opLen; simp only [ho]
    split
    · rename_i x t hl _
      rw [h1 x (by rw [hl]; simp)]
    · rfl
  · rename_i args argTypes ho; rw [ho] at hs
    have h1 : ∀ x ∈ args.toList, ∀ q hint, getD_ P σ' q x hint = getD_ P σ q x hint := fun x hx q hint => hs.d (by simp [Op.operands, Call.operands]; simpa using hx) q hint
    refine e ?_ h
    unfold opLen; simp only [ho]
    split
    · rename_i x y hl
      rw [h1 x (by rw [hl]; simp), h1 y (by rw [hl]; simp)]
    · rfl
  · rename_i args argTypes ho; rw [ho] at hs
    have h1 : ∀ x ∈ args.toList, ∀ q hint, getD_ P σ' q x hint = getD_ P σ q x hint := fun x hx q hint => hs.d (by simp [Op.operands, Call.operands]; simpa using hx) q hint
    refine e ?_ h
    unfold opLen; simp only [ho]
    split
    · rename_i x y hl
      rw [h1 x (by rw [hl]; simp), h1 y (by rw [hl]; simp)]
    · rfl
  · cases h

theorem guardOf_congr {ops : Array Oper} (h : ∀ t, t ∈ o.looksAt ops → σ'.tm t = σ.tm t) : guardOf ops σ' o = guardOf ops σ o := by
  unfold guardOf
  split
  · rfl
  · rename_i j want hg
    split
    · rename_i t ht
      rw [h t (by unfold Oper.looksAt; rw [hg]; simp only [ht]; simp)]
    · rfl

theorem retCell_congr {r : RCell} {c : SC} {e : E} {l : OwnL} (h : retCell σ r c = some (e, l)) (hl : ∀ j g, (j, some g) ∈ l → σ'.live g = σ.live g) : retCell σ' r c = some (e, l) := by
  obtain ⟨t, _ | ⟨j0, T⟩⟩ := r
  · exact h
  · simp only [retCell] at h ⊢
    split at h
    · exact h
    · rename_i g e0 t'
      split at h
      · rename_i e1 T' t'' hlv
        split at h
        · rename_i hc
          injection h with h; simp only [Prod.mk.injEq] at h; obtain ⟨rfl, rfl⟩ := h
          rw [hl j0 g (by simp), hlv]
          simp only [hc, and_self, if_true]
        · cases h
      · cases h
    · rename_i g t'
      split at h
      · rename_i e1 T' t'' hlv
        split at h
        · rename_i hc
          injection h with h; simp only [Prod.mk.injEq] at h; obtain ⟨rfl, rfl⟩ := h
          rw [hl j0 g (by simp), hlv]
          simp only [hc, and_self, if_true]
        · cases h
      · cases h
    · cases h
theorem retCells_congr : ∀ {rs : List RCell} {cs : List SC} {es : List E} {l : OwnL}, retCells σ rs cs = some (es, l) → (∀ j g, (j, some g) ∈ l → σ'.live g = σ.live g) → retCells σ' rs cs = some (es, l)
  | [], [], es, l, h, _ => h
  | [], _ :: _, _, _, h, _ => by cases h
  | _ :: _, [], _, _, h, _ => by cases h
  | r :: rs, c :: cs, es, l, h, hl => by
    simp only [retCells] at h ⊢
    split at h
    · rename_i h1 h2
      injection h with h; simp only [Prod.mk.injEq] at h; obtain ⟨rfl, rfl⟩ := h
      rw [retCell_congr h1 (fun j g hm => hl j g (List.mem_append_left _ hm)), retCells_congr h2 (fun j g hm => hl j g (List.mem_append_right _ hm))]
    · cases h
theorem oObjs_congr : ∀ {rcs : List (List RCell)} {ids : List Nat} {ess : List (List E)} {l : OwnL}, oObjs σ rcs ids = some (ess, l) → (∀ id ∈ ids, σ'.hp id = σ.hp id) → (∀ j g, (j, some g) ∈ l → σ'.live g = σ.live g) → oObjs σ' rcs ids = some (ess, l)
  | [], [], _, _, h, _, _ => h
  | [], _ :: _, _, _, h, _, _ => by cases h
  | _ :: _, [], _, _, h, _, _ => by cases h
  | rc :: r, id :: ids, ess, l, h, hh, hl => by
    simp only [oObjs] at h ⊢
    rw [hh id (by simp)]
    split at h
    · split at h
      · rename_i h1 h2
        injection h with h; simp only [Prod.mk.injEq] at h; obtain ⟨rfl, rfl⟩ := h
        rw [retCells_congr h1 (fun j g hm => hl j g (List.mem_append_left _ hm)), oObjs_congr h2 (fun id hi => hh id (by simp [hi])) (fun j g hm => hl j g (List.mem_append_right _ hm))]
      · cases h
    · cases h
theorem oArgs_congr : ∀ {sh : List Bool} {xs : List Operand} {ts : List TypeId}, SameOn P σ σ' xs → oArgs P σ' pc sh xs ts = oArgs P σ pc sh xs ts
  | [], [], [], _ => rfl
  | false :: sh, x :: l, t :: ts, hs => by
    simp only [oArgs]
    rw [hs.d (by simp), oArgs_congr (fun y hy => hs y (by simp [hy]))]
  | true :: sh, x :: l, t :: ts, hs => by
    simp only [oArgs]
    rw [hs x (by simp), oArgs_congr (fun y hy => hs y (by simp [hy]))]
  | [], [], _ :: _, _ => by simp [oArgs]
  | [], _ :: _, ts, _ => by cases ts <;> simp [oArgs]
  | b :: _, [], ts, _ => by cases b <;> cases ts <;> simp [oArgs]
  | b :: _, _ :: _, [], _ => by cases b <;> simp [oArgs]
theorem opOCall_congr {cs : Tbl} {x : OCall} (hs : SameOn P σ σ' o.op.operands.toList) (h : opOCall P cs σ pc o = some x) (hh : ∀ id ∈ x.ids, σ'.hp id = σ.hp id) (hl : ∀ j g, (j, some g) ∈ x.own → σ'.live g = σ.live g) :
    opOCall P cs σ' pc o = some x := by
  unfold opOCall at h ⊢
  split at h
  · rename_i f args argTypes ho
    try simp only [ho]
    rw [hs f (by rw [ho]; simp [Op.operands, Call.operands])]
    split at h
    · rename_i fe k' hf
      try simp only [hf]
      split at h
      · rename_i sig hsig
        try simp only [hsig]
        split at h
        · rename_i ob hob
          try simp only [hob]
          rw [oArgs_congr (fun x hx => hs x (by rw [ho]; simp [Op.operands, Call.operands]; right; simpa using hx))]
          split at h
          · rename_i es ids hes
            try simp only [hes]
            split at h
            · rename_i ess l hobjs
              split at h
              · rename_i hcnd
                injection h with h; subst h
                rw [oObjs_congr hobjs hh hl]
                exact if_pos hcnd
              · cases h
            · cases h
          · cases h
        · cases h
      · cases h
    · cases h
  · cases h

/-- An effect is the same in every state that agrees where the operation looks. -/
theorem opAppClip_congr (hs : SameOn P σ σ' o.op.operands.toList) : opAppClip P σ' o = opAppClip P σ o := by
  unfold opAppClip
  split
  · rename_i args argTypes ho
    split
    · rename_i s x tt tt' hargs hats
      have m1 : s ∈ o.op.operands.toList := by rw [ho]; simp [Op.operands, Call.operands]; have : s ∈ args.toList := by rw [hargs]; simp
                                               simpa using this
      have m2 : x ∈ o.op.operands.toList := by rw [ho]; simp [Op.operands, Call.operands]; have : x ∈ args.toList := by rw [hargs]; simp
                                               simpa using this
      rw [hs s m1, hs.d m2]
    · rfl
  · rfl

theorem effOp0_congr {cs : Tbl} {ops : Array Oper} {p : Nat} {e : Eff} (he : effOp0 P cs ops σ p o = some e) (htm : ∀ t, t ∈ o.looksAt ops → σ'.tm t = σ.tm t) (hhp : ∀ id ∈ e.rd, σ'.hp id = σ.hp id)
    (hlive : ∀ x ∈ e.live, x.2 = none → σ'.live x.1 = σ.live x.1) : effOp0 P cs ops σ' p o = some e := by
  have hs : SameOn P σ σ' o.op.operands.toList := sameOn_of fun t ht => htm t (by
    unfold Oper.looksAt
    exact List.mem_append_left _ (List.mem_filterMap.2 ⟨.tmp t, ht, rfl⟩))
  unfold effOp0 at he ⊢
  rw [guardOf_congr htm]
  split at he
  · cases he
  · rename_i pc hg
    try simp only [hg]
    split at he
    · rename_i hk
      have : opNew P σ' pc o = opNew P σ pc o := by
        unfold opNew
        split
        · rfl
        · rename_i t x ho
          rw [hs x (by rw [ho]; simp [Op.operands])]
        · rfl
      try simp only [hk]
      rw [this]; exact he
    · rename_i hk
      try simp only [hk]
      split at he
      · rename_i id l hl
        have hrd : id ∈ e.rd := by
          split at he
          · injection he with he; subst he; simp
          · cases he
        have : opStore P σ' pc o = some (id, l) := by
          unfold opStore at hl ⊢
          split at hl
          · rename_i t x y ho
            try simp only [ho]
            rw [hs x (by rw [ho]; simp [Op.operands]), hs y (by rw [ho]; simp [Op.operands])]
            split at hl
            · rename_i id' off cs' sz h1 h2 h3
              try simp only [h1, h2, h3]
              split at hl
              · rename_i old hid
                split at hl
                · rename_i hc
                  injection hl with hl; simp only [Prod.mk.injEq] at hl; obtain ⟨rfl, rfl⟩ := hl
                  rw [hhp _ hrd, hid]
                  exact if_pos hc
                · cases hl
              · cases hl
            · cases hl
          · cases hl
        rw [this]; exact he
      · cases he
    · rename_i hk
      try simp only [hk]
      split at he
      · rename_i e' t fz hf
        injection he with he; subst he
        have : opFn P σ' pc o = some (e', t, fz) := by
          unfold opFn at hf ⊢
          split at hf
          · rename_i f first captured ho
            try simp only [ho]
            split at hf
            · rename_i hfi
              rw [if_pos hfi]
              split at hf
              · rename_i es fz' hcaps
                injection hf with hf; simp only [Prod.mk.injEq] at hf; obtain ⟨h1, h2, h3⟩ := hf
                subst h3
                rw [capsE_congr (fun x hx => hs x (by rw [ho]; simp [Op.operands]; right; simpa using hx)) hcaps (fun x hx => hhp x.1 (by simp only [List.mem_map]; exact ⟨x, hx, rfl⟩))]
                simp only [h1, h2]
              · cases hf
            · cases hf
          · cases hf
        rw [this]
      · cases he
    · rename_i hk
      try simp only [hk]
      have : opCall P cs σ' pc o = opCall P cs σ pc o := by
        unfold opCall
        split
        · rename_i f args argTypes ho
          rw [hs f (by rw [ho]; simp [Op.operands, Call.operands]), argsE_congr (fun x hx => hs x (by rw [ho]; simp [Op.operands, Call.operands]; right; simpa using hx))]
        · rfl
      rw [this]
      split at he
      · exact he
      · split at he
        · rename_i x hx
          have : opOCall P cs σ' [] o = some x := by
            split at he
            · injection he with he; subst he
              refine opOCall_congr hs hx hhp (fun j g hm => hlive (g, none) ?_ rfl)
              exact List.mem_append_left _ (List.mem_append_left _ (List.mem_filterMap.2 ⟨(j, some g), hm, rfl⟩))
            · cases he
          rw [this]; exact he
        · cases he
    · rename_i hk
      try simp only [hk]
      rw [opAppClip_congr hs]
      split at he
      · exact he
      split at he
      · rename_i g e1 e2 T t b ha
        have hlv : ∀ g', g = some g' → σ'.live g' = σ.live g' := by
          rintro g' rfl
          split at he
          · injection he with he; subst he
            exact hlive (g', none) (by simp) rfl
          · cases he
        have : opAppend P σ' pc o = some (g, e1, e2, T, t, b) := by
          unfold opAppend at ha ⊢
          split at ha
          · rename_i args argTypes ho
            try simp only [ho]
            split at ha
            · rename_i s x tt tt' hargs hats
              try simp only [hargs, hats]
              have m1 : s ∈ o.op.operands.toList := by rw [ho]; simp [Op.operands, Call.operands]; have : s ∈ args.toList := by rw [hargs]; simp
                                                       simpa using this
              have m2 : x ∈ o.op.operands.toList := by rw [ho]; simp [Op.operands, Call.operands]; have : x ∈ args.toList := by rw [hargs]; simp
                                                       simpa using this
              rw [hs s m1, hs.d m2]
              split at ha
              · rename_i el sv ex u hu hsv hx
                try simp only [hu, hsv, hx]
                split at ha
                · rename_i ie u' hie hu'
                  try simp only [hie, hu']
                  split at ha
                  · rename_i hc
                    rw [if_pos hc]
                    split at ha
                    · rename_i v
                      exact ha
                    · rename_i g0 e0 v
                      split at ha
                      · rename_i e1' T' v' hl
                        split at ha
                        · rename_i hc2
                          injection ha with ha; simp only [Prod.mk.injEq] at ha; obtain ⟨rfl, rfl, rfl, rfl, rfl, rfl⟩ := ha
                          try simp only []
                          rw [hlv g0 rfl, hl]
                          simp only [hc2, and_self, if_true]
                        · cases ha
                      · cases ha
                    · cases ha
                  · cases ha
                · cases ha
              · cases ha
            · cases ha
          · cases ha
        rw [this]; exact he
      · cases he
    · rename_i hk
      try simp only [hk]
      have : opLit P σ' pc o = opLit P σ pc o := by
        unfold opLit
        split
        · rename_i t len parts ho
          have h1 := fun hint => partsSC_congr (P := P) (σ := σ) (σ' := σ') (pc := pc) hint (xs := parts.toList) (by rw [ho] at hs; simpa [Op.operands] using hs)
          simp only [h1]
        · rfl
      rw [this]; exact he
    · split at he
      · rename_i s is rd hpl
        injection he with he; subst he
        rw [opPlain_congr hs hpl hhp]
      · cases he

theorem liveX_congr {g : Tag} {t : Ty} (h : σ'.live g = σ.live g) : liveX σ' g t = liveX σ g t := by unfold liveX; rw [h]
theorem xKind_congr {cs : Tbl} (hs : SameOn P σ σ' o.op.operands.toList) : xKind P cs σ' o = xKind P cs σ o := by
  unfold xKind
  split
  · rename_i t x ho; rw [hs x (by rw [ho]; simp [Op.operands])]
  · rename_i t x y ho; rw [hs x (by rw [ho]; simp [Op.operands])]
  · rename_i t x i ho; rw [hs x (by rw [ho]; simp [Op.operands])]
  · rename_i args argTypes ho
    split
    · rename_i x t hl ht
      have m1 : x ∈ o.op.operands.toList := by rw [ho]; simp [Op.operands, Call.operands]; have : x ∈ args.toList := by rw [hl]; simp
                                               simpa using this
      rw [hs x m1]
    · rfl
  · rename_i args argTypes ho
    split
    · rename_i x _ t _ hl ht
      have m1 : x ∈ o.op.operands.toList := by rw [ho]; simp [Op.operands, Call.operands]; have : x ∈ args.toList := by rw [hl]; simp
                                               simpa using this
      rw [hs x m1]
    · rfl
  · rfl
  · rename_i f args argTypes ho
    have : (args.toList.zip argTypes.toList).any (argXo P σ') = (args.toList.zip argTypes.toList).any (argXo P σ) := by
      have key : ∀ x ∈ args.toList.zip argTypes.toList, argXo P σ' x = argXo P σ x := by
        intro x hx
        have hm : x.1 ∈ args.toList := (List.of_mem_zip (a := x.1) (b := x.2) hx).1
        unfold argXo
        rw [hs x.1 (by rw [ho]; simp [Op.operands, Call.operands]; right; simpa using hm)]
      rw [Bool.eq_iff_iff, List.any_eq_true, List.any_eq_true]
      exact ⟨fun ⟨x, hx, h⟩ => ⟨x, hx, key x hx ▸ h⟩, fun ⟨x, hx, h⟩ => ⟨x, hx, (key x hx).symm ▸ h⟩⟩
    rw [this]
  · rfl
theorem asDataX_congr {c : SC} {y : (E × Ty) × List (Tag × Option (E × TypeId × Ty))} (h : asDataX σ c = some y) (hl : ∀ z ∈ y.2, σ'.live z.1 = σ.live z.1) : asDataX σ' c = some y := by
  cases c with
  | xo g t =>
    simp only [asDataX] at h ⊢
    split at h
    · rename_i e T hx
      injection h with h; subst h
      rw [liveX_congr (hl _ (List.mem_singleton.2 rfl)), hx]
    · cases h
  | _ => exact h
theorem asDatasX_congr : ∀ {cl : List SC} {y : (List E × List Ty) × List (Tag × Option (E × TypeId × Ty))}, asDatasX σ cl = some y → (∀ z ∈ y.2, σ'.live z.1 = σ.live z.1) → asDatasX σ' cl = some y
  | [], y, h, _ => h
  | c :: cl, y, h, hl => by
    simp only [asDatasX] at h ⊢
    split at h
    · rename_i e t l es ts ls h1 h2
      injection h with h; subst h
      rw [asDataX_congr h1 (fun z hz => hl z (List.mem_append_left _ hz)), asDatasX_congr h2 (fun z hz => hl z (List.mem_append_right _ hz))]
    · cases h
theorem asDataVX_congr {s : SV} {y : (E × Ty) × List (Tag × Option (E × TypeId × Ty))} (h : asDataVX σ s = some y) (hl : ∀ z ∈ y.2, σ'.live z.1 = σ.live z.1) : asDataVX σ' s = some y := by
  cases s with
  | one c => exact asDataX_congr h hl
  | agg cl =>
    simp only [asDataVX] at h ⊢
    split at h
    · rename_i es ts ls h1
      injection h with h; subst h
      rw [asDatasX_congr h1 hl]
    · cases h
  | tup l => cases h
theorem argsX_congr : ∀ {xs : List Operand} {ts : List TypeId} {y : List (E × Ty) × List (Tag × Option (E × TypeId × Ty))}, SameOn P σ σ' xs → argsX P σ pc xs ts = some y → (∀ z ∈ y.2, σ'.live z.1 = σ.live z.1) → argsX P σ' pc xs ts = some y
  | [], [], y, _, h, _ => h
  | x :: xs, t :: ts, y, hs, h, hl => by
    simp only [argsX] at h ⊢
    split at h
    · rename_i e l es ls h1 h2
      injection h with h; subst h
      rw [hs x (by simp)]
      rw [Option.bind_eq_some_iff] at h1
      obtain ⟨sv, q1, q2⟩ := h1
      rw [q1, Option.bind_some, asDataVX_congr q2 (fun z hz => hl z (List.mem_append_left _ hz)), argsX_congr (fun z hz => hs z (by simp [hz])) h2 (fun z hz => hl z (List.mem_append_right _ hz))]
    · cases h
  | [], _ :: _, _, _, h, _ => by cases h
  | _ :: _, [], _, _, h, _ => by cases h

theorem xKindG_congr (hs : SameOn P σ σ' o.op.operands.toList) : xKindG P σ' pc o = xKindG P σ pc o := by
  unfold xKindG
  split
  · rename_i f args argTypes ho
    have key : ∀ x ∈ args.toList.zip argTypes.toList, argXoG P σ' pc x = argXoG P σ pc x := by
      intro x hx
      have hm : x.1 ∈ args.toList := (List.of_mem_zip (a := x.1) (b := x.2) hx).1
      unfold argXoG
      rw [hs x.1 (by rw [ho]; simp [Op.operands, Call.operands]; right; simpa using hm)]
    rw [Bool.eq_iff_iff, List.any_eq_true, List.any_eq_true]
    exact ⟨fun ⟨x, hx, h⟩ => ⟨x, hx, key x hx ▸ h⟩, fun ⟨x, hx, h⟩ => ⟨x, hx, (key x hx).symm ▸ h⟩⟩
  · rfl
theorem xCallG_congr {cs : Tbl} {p : Nat} {e : Eff} (hs : SameOn P σ σ' o.op.operands.toList) (he : xCallG P cs σ pc p o = some e) (hlive : ∀ x ∈ e.live, σ'.live x.1 = σ.live x.1) : xCallG P cs σ' pc p o = some e := by
  unfold xCallG at he ⊢
  split at he
  · rename_i f args argTypes ho
    try simp only [ho]
    rw [hs f (by rw [ho]; simp [Op.operands, Call.operands])]
    split at he
    · rename_i fe k' es l hf hes
      split at he
      · rename_i sig hsig
        split at he
        · rename_i hc
          injection he with he; subst he
          rw [argsX_congr (fun x hx => hs x (by rw [ho]; simp [Op.operands, Call.operands]; right; simpa using hx)) hes hlive]
          simp only [hf, hsig]
          exact if_pos hc
        · cases he
      · cases he
    · cases he
  · cases he

theorem effX_congr {cs : Tbl} {p k : Nat} {e : Eff} (hs : SameOn P σ σ' o.op.operands.toList) (he : effX P cs σ p o k = some e) (hlive : ∀ x ∈ e.live, σ'.live x.1 = σ.live x.1) : effX P cs σ' p o k = some e := by
  unfold effX at he ⊢
  split at he
  · unfold xLoad at he ⊢
    split at he
    · rename_i t x ho
      try simp only [ho]
      rw [hs x (by rw [ho]; simp [Op.operands])]
      split at he
      · cases he
      · rename_i hc
        rw [if_neg hc]
        split at he
        · rename_i g i u off hx
          try simp only [hx]
          split at he
          · rename_i e1 T hlx
            simp only [Option.map_eq_some_iff] at he
            obtain ⟨s, h1, rfl⟩ := he
            rw [liveX_congr (hlive _ (List.mem_singleton.2 rfl)), hlx]
            simp only [h1, Option.map_some]
          · cases he
        · cases he
    · cases he
  · unfold xStore at he ⊢
    split at he
    · rename_i t x y ho
      try simp only [ho]
      rw [hs x (by rw [ho]; simp [Op.operands]), hs y (by rw [ho]; simp [Op.operands])]
      split at he
      · rename_i g i u off es ts n h1 h2 h3
        try simp only [h1, h2, h3]
        split at he
        · rename_i e1 T hlx
          split at he
          · rename_i hc
            simp only [Option.map_eq_some_iff] at he
            obtain ⟨s, h4, rfl⟩ := he
            rw [liveX_congr (hlive _ (List.mem_singleton.2 rfl)), hlx]
            simp only [if_pos hc, h4, Option.map_some]
          · cases he
        · cases he
      · cases he
    · cases he
  · unfold xLen at he ⊢
    split at he
    · rename_i args argTypes ho
      try simp only [ho]
      split at he
      · rename_i x t hl ht
        try simp only [hl, ht]
        have m1 : x ∈ o.op.operands.toList := by rw [ho]; simp [Op.operands, Call.operands]; have : x ∈ args.toList := by rw [hl]; simp
                                                 simpa using this
        rw [hs x m1]
        split at he
        · rename_i g u hu hx
          try simp only [hu, hx]
          split at he
          · rename_i e1 T hlx
            injection he with he; subst he
            rw [liveX_congr (hlive _ (List.mem_singleton.2 rfl)), hlx]
          · cases he
        · cases he
      · cases he
    · cases he
  · unfold xIndex at he ⊢
    split at he
    · rename_i t x i ho
      try simp only [ho]
      rw [hs x (by rw [ho]; simp [Op.operands]), hs.d (x := i) (by rw [ho]; simp [Op.operands])]
      split at he
      · rename_i g u ie k hu hx hi
        try simp only [hu, hx, hi]
        split at he
        · rename_i e1 T hlx
          split at he
          · rename_i hc
            injection he with he; subst he
            rw [liveX_congr (hlive _ (List.mem_singleton.2 rfl)), hlx]
            exact if_pos hc
          · cases he
        · cases he
      · cases he
    · cases he
  · unfold xAppend at he ⊢
    split at he
    · rename_i g e1 e2 T t b ha
      injection he with he; subst he
      have hlv : ∀ g', g = some g' → σ'.live g' = σ.live g' := by
        rintro g' rfl
        exact hlive (g', none) (by simp)
      have : opAppX P σ' o = some (g, e1, e2, T, t, b) := by
        unfold opAppX at ha ⊢
        split at ha
        · rename_i args argTypes ho
          try simp only [ho]
          split at ha
          · rename_i s x tt tt' hargs hats
            try simp only [hargs, hats]
            have m1 : s ∈ o.op.operands.toList := by rw [ho]; simp [Op.operands, Call.operands]; have : s ∈ args.toList := by rw [hargs]; simp
                                                     simpa using this
            have m2 : x ∈ o.op.operands.toList := by rw [ho]; simp [Op.operands, Call.operands]; have : x ∈ args.toList := by rw [hargs]; simp
                                                     simpa using this
            rw [hs s m1, hs.d m2]
            split at ha
            · rename_i el sv ex u hu hsv hx
              try simp only [hu, hsv, hx]
              split at ha
              · rename_i ie u' hie hu'
                try simp only [hie, hu']
                split at ha
                · rename_i hc
                  rw [if_pos hc]
                  split at ha
                  · exact ha
                  · rename_i g0 v
                    split at ha
                    · rename_i e1' T' hlx
                      split at ha
                      · rename_i hc2
                        injection ha with ha; simp only [Prod.mk.injEq] at ha; obtain ⟨rfl, rfl, rfl, rfl, rfl, rfl⟩ := ha
                        try simp only []
                        rw [liveX_congr (hlv g0 rfl), hlx]
                        simp only [hc2, and_self, if_true]
                      · cases ha
                    · cases ha
                  · cases ha
                · cases ha
              · cases ha
            · cases ha
          · cases ha
        · cases ha
      rw [this]
    · cases he
  · unfold xLit at he ⊢
    have : opLit P σ' [] o = opLit P σ [] o := by
      unfold opLit
      split
      · rename_i t len parts ho
        have h1 := fun hint => partsSC_congr (P := P) (σ := σ) (σ' := σ') (pc := []) hint (xs := parts.toList) (by rw [ho] at hs; simpa [Op.operands] using hs)
        simp only [h1]
      · rfl
    rw [this]; exact he
  · unfold xCall at he ⊢
    split at he
    · rename_i f args argTypes ho
      try simp only [ho]
      rw [hs f (by rw [ho]; simp [Op.operands, Call.operands])]
      split at he
      · rename_i fe k' es l hf hes
        split at he
        · rename_i sig hsig
          split at he
          · rename_i hc
            injection he with he; subst he
            rw [argsX_congr (fun x hx => hs x (by rw [ho]; simp [Op.operands, Call.operands]; right; simpa using hx)) hes (fun z hz => hlive z (List.mem_append_left _ hz))]
            simp only [hf, hsig]
            exact if_pos hc
          · cases he
        · cases he
      · cases he
    · cases he

theorem effOp_congr {cs : Tbl} {ops : Array Oper} {p : Nat} {e : Eff} (he : effOp P cs ops σ p o = some e) (htm : ∀ t, t ∈ o.looksAt ops → σ'.tm t = σ.tm t) (hhp : ∀ id ∈ e.rd, σ'.hp id = σ.hp id)
    (hlive : ∀ x ∈ e.live, σ'.live x.1 = σ.live x.1) : effOp P cs ops σ' p o = some e := by
  have hs : SameOn P σ σ' o.op.operands.toList := sameOn_of fun t ht => htm t (by
    unfold Oper.looksAt
    exact List.mem_append_left _ (List.mem_filterMap.2 ⟨.tmp t, ht, rfl⟩))
  unfold effOp at he ⊢
  rw [xKind_congr hs]
  split at he
  · exact effX_congr hs he hlive
  · rw [guardOf_congr htm]
    split at he
    · rename_i pc hg
      try simp only [hg]
      rw [xKindG_congr hs]
      split at he
      · rename_i hk
        rw [if_pos hk]
        exact xCallG_congr hs he hlive
      · rename_i hk
        rw [if_neg hk]
        exact effOp0_congr he htm hhp (fun x hx _ => hlive x hx)
    · cases he
  · exact effOp0_congr he htm hhp (fun x hx _ => hlive x hx)

theorem litSCs_congr (hs : SameOn P σ σ' o.op.operands.toList) : litSCs P σ' pc o = litSCs P σ pc o := by
  unfold litSCs
  split
  · rename_i t len parts ho
    have h1 := fun hint => partsSC_congr (P := P) (σ := σ) (σ' := σ') (pc := pc) hint (xs := parts.toList) (by rw [ho] at hs; simpa [Op.operands] using hs)
    simp only [h1]
  · rfl
theorem frOk_congr {cs : Tbl} (hs : SameOn P σ σ' o.op.operands.toList) : frOk P cs σ' pc o = frOk P cs σ pc o := by
  unfold frOk
  split
  · rename_i f args argTypes ho
    rw [hs f (by rw [ho]; simp [Op.operands, Call.operands])]
  · rename_i args argTypes ho
    split
    · rename_i x y _ t hl ht
      have m1 : x ∈ o.op.operands.toList := by rw [ho]; simp [Op.operands, Call.operands]; have : x ∈ args.toList := by rw [hl]; simp
                                               simpa using this
      have m2 : y ∈ o.op.operands.toList := by rw [ho]; simp [Op.operands, Call.operands]; have : y ∈ args.toList := by rw [hl]; simp
                                               simpa using this
      rw [hs x m1, hs y m2]
    · rfl
  · rw [litSCs_congr hs]
  · rfl
theorem effOpF_congr {cs : Tbl} {ops : Array Oper} {p : Nat} {e : Eff} (he : effOpF P cs ops σ p o = some e) (htm : ∀ t, t ∈ o.looksAt ops → σ'.tm t = σ.tm t) (hhp : ∀ id ∈ e.rd, σ'.hp id = σ.hp id)
    (hlive : ∀ x ∈ e.live, σ'.live x.1 = σ.live x.1) : effOpF P cs ops σ' p o = some e := by
  have hs : SameOn P σ σ' o.op.operands.toList := sameOn_of fun t ht => htm t (by
    unfold Oper.looksAt
    exact List.mem_append_left _ (List.mem_filterMap.2 ⟨.tmp t, ht, rfl⟩))
  unfold effOpF at he ⊢
  split at he
  · rename_i hf
    exact effOp_congr he htm hhp hlive
  · rename_i hf
    rw [guardOf_congr htm]
    split at he
    · rename_i pc hg
      try simp only [hg]
      rw [frOk_congr hs]
      split at he
      · rename_i hk
        rw [if_pos hk]
        exact effOp0_congr he htm hhp (fun x hx _ => hlive x hx)
      · cases he
    · cases he
  · split at he
    · rename_i hk
      rw [if_pos hk]
      exact effOp0_congr he htm hhp (fun x hx _ => hlive x hx)
    · cases he

theorem opSigOf_congr {cs : Tbl} (hs : SameOn P σ σ' o.op.operands.toList) : opSigOf P cs σ' o = opSigOf P cs σ o := by
  unfold opSigOf
  split
  · rename_i f args argTypes ho
    rw [hs f (by rw [ho]; simp [Op.operands, Call.operands])]
  · rfl
theorem effOpD_congr {d : Option Bool} {cs : Tbl} {ops : Array Oper} {p : Nat} {e : Eff} (he : effOpD d P cs ops σ p o = some e) (htm : ∀ t, t ∈ o.looksAt ops → σ'.tm t = σ.tm t) (hhp : ∀ id ∈ e.rd, σ'.hp id = σ.hp id)
    (hlive : ∀ x ∈ e.live, σ'.live x.1 = σ.live x.1) : effOpD d P cs ops σ' p o = some e := by
  have hs : SameOn P σ σ' o.op.operands.toList := sameOn_of fun t ht => htm t (by
    unfold Oper.looksAt
    exact List.mem_append_left _ (List.mem_filterMap.2 ⟨.tmp t, ht, rfl⟩))
  unfold effOpD at he ⊢
  split at he
  · exact effOpF_congr he htm hhp hlive
  · split at he
    · cases he
    · rename_i hf
      rw [if_neg hf, guardOf_congr htm]
      split at he
      · rename_i pc hg
        split at he
        · rename_i x hx
          injection he with he; subst he
          have : opOCall P cs σ' pc o = some x := by
            refine opOCall_congr hs hx hhp (fun j g hm => hlive (g, none) ?_)
            exact List.mem_append_left _ (List.mem_append_left _ (List.mem_filterMap.2 ⟨(j, some g), hm, rfl⟩))
          simp only [this]
        · cases he
      · cases he
  · rw [guardOf_congr htm, opSigOf_congr hs]
    exact he

end
end Go.Eng
