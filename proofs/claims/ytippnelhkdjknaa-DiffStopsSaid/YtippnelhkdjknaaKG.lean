/-
  The document's example: what it runs through, and that it gives true.
-/
import Derived.Test.YtippnelhkdjknaaKF
namespace Go.Proofs.Ytippnelhkdjknaa
open Go Go.RowKit Go.Eng Go.Proofs

def alc (id k st : Int) : AAlc := ⟨id, 1, 1, 0, k, 0, 0, 0, 0, false, st⟩
def jobK : AJob := ⟨1, 1, 0, 1, [⟨2, 0, 0⟩], 2, false⟩
def storeK (st : Int) : AStore := ⟨0, 0, [jobK], [], [], [alc 5 0 st, alc 6 1 2], [], [], []⟩
theorem knownS_eq : knownS = storeK 2 := rfl
theorem diffK : diffL (storeK 2) 1 = ([5], []) := diff1
theorem diffK2 : diffL (storeK 5) 1 = ([], [(0, 0)]) := by kernel_rfl
def alcV (id k st : Int) : List Value := [.int .i64 id, .int .i64 1, .int .i64 1, .int .i64 0, .int .i64 k, .int .i64 0, .int .i64 0, .int .i64 0, .int .i64 0, .bool false, .int .i64 st]
theorem alc_cells (id k st : Int) : (alc id k st).enc.cells = [.int .i64 id, .int .i64 1, .int .i64 1, .int .i64 0, .int .i64 k, .int .i64 0, .int .i64 0, .int .i64 0, .int .i64 0, .bool false, .int .i64 st] := rfl
theorem alcV_rep {w : World} {S : Foot} {id k st : Int} {j : Nat} {v : Value} {c : D} (h2 : (alc id k st).enc.cells[j]? = some c) (h3 : (alcV id k st)[j]? = some v) : Rep w S v c := by
  rw [alc_cells] at h2
  unfold alcV at h3
  match j, h2, h3 with
  | 0, h2, h3 | 1, h2, h3 | 2, h2, h3 | 3, h2, h3 | 4, h2, h3 | 5, h2, h3 | 6, h2, h3 | 7, h2, h3 | 8, h2, h3 | 10, h2, h3 => simp at h2 h3; subst h2 h3; exact .int _ _
  | 9, h2, h3 => simp at h2 h3; subst h2 h3; exact .bool _
  | j + 11, h2, h3 => simp at h2
theorem rep_allocs {w : World} {S : Foot} {b cap : Nat} {cur : Array Value} {id k st id2 k2 st2 : Int} (hb : w.heap[b]? = some (.cells cur 40 (0, 0))) (hcap : 2 ≤ cap) (ht : cur.toList.take 22 = alcV id k st ++ alcV id2 k2 st2)
    (hS : ∀ o, o < 22 → S b o) : Rep w S (.slice (some ⟨b, 0, none⟩) 2 cap) (encL AAlc.enc [alc id k st, alc id2 k2 st2]) := by
  refine .list b 0 cap 11 (alcV id k st ++ alcV id2 k2 st2) [(alc id k st).enc, (alc id2 k2 st2).enc] (by omega) (by simp) hcap rfl (fun i hi => by rw [Nat.zero_add]; exact hS i hi) (fun i v hi => ?_) (fun i d hd => ?_) (fun i d j v c h1 h2 h3 => ?_)
  · rw [Nat.zero_add, cell_of_row w b i cur 40 (0, 0) hb]
    rw [← ht, List.getElem?_take] at hi
    split at hi
    · simpa using hi
    · cases hi
  · match i, hd with
    | 0, hd | 1, hd => simp at hd; subst hd; rfl
    | i + 2, hd => simp at hd
  · match i, h1 with
    | 0, h1 =>
      simp at h1; subst h1
      have hj : j < 11 := by rw [alc_cells] at h2; simpa using (List.getElem?_eq_some_iff.1 h2).1
      rw [Nat.zero_mul, Nat.zero_add, List.getElem?_append_left (by exact hj)] at h3
      exact alcV_rep h2 h3
    | 1, h1 =>
      simp at h1; subst h1
      rw [Nat.one_mul, List.getElem?_append_right (by show 11 ≤ 11 + j; omega)] at h3
      have he : 11 + j - (alcV id k st).length = j := by show 11 + j - 11 = j; omega
      rw [he] at h3
      exact alcV_rep h2 h3
    | i + 2, h1 => simp at h1

theorem has_listI {t : Ty} {l : List D} (hl : lenOk t l.length) (h : ∀ x ∈ l, Has t x) : Has (.list t) (.list l) := by
  rw [has_list]; exact ⟨l, rfl, hl, h⟩
theorem in64k (n : Nat) (h : n ≤ 1000) : in64 (n : Int) := in64_iff.2 ⟨by omega, by omega⟩
theorem has_alc {id k st : Int} (h1 : in64 id) (h2 : in64 k) (h3 : in64 st) : Has allocT (alc id k st).enc :=
  ⟨_, rfl, _, _, rfl, ⟨_, rfl, h1⟩, _, _, rfl, ⟨_, rfl, in64k 1 (by omega)⟩, _, _, rfl, ⟨_, rfl, in64k 1 (by omega)⟩, _, _, rfl, ⟨_, rfl, in64k 0 (by omega)⟩, _, _, rfl, ⟨_, rfl, h2⟩, _, _, rfl, ⟨_, rfl, in64k 0 (by omega)⟩,
    _, _, rfl, ⟨_, rfl, in64k 0 (by omega)⟩, _, _, rfl, ⟨_, rfl, in64k 0 (by omega)⟩, _, _, rfl, ⟨_, rfl, in64k 0 (by omega)⟩, _, _, rfl, ⟨_, rfl⟩, _, _, rfl, ⟨_, rfl, h3⟩, rfl⟩
theorem has_jobK : Has jobT jobK.enc :=
  ⟨_, rfl, _, _, rfl, ⟨_, rfl, in64k 1 (by omega)⟩, _, _, rfl, ⟨_, rfl, in64k 1 (by omega)⟩, _, _, rfl, ⟨_, rfl, in64k 0 (by omega)⟩, _, _, rfl, ⟨_, rfl, in64k 1 (by omega)⟩,
    _, _, rfl, has_listI ⟨by decide, by decide⟩ (fun x hx => by
      obtain rfl : x = (⟨2, 0, 0⟩ : AGrp).enc := by simpa [jobK] using hx
      exact ⟨_, rfl, _, _, rfl, ⟨_, rfl, in64k 2 (by omega)⟩, _, _, rfl, ⟨_, rfl, in64k 0 (by omega)⟩, _, _, rfl, ⟨_, rfl, in64k 0 (by omega)⟩, rfl⟩),
    _, _, rfl, ⟨_, rfl, in64k 2 (by omega)⟩, _, _, rfl, ⟨_, rfl⟩, rfl⟩
theorem has_nil (t : Ty) : Has (.list t) (.list []) := has_listI (lenOk_zero t) (fun x hx => by cases hx)
theorem has_storeK (st : Int) (h : in64 st) : Has storeT (storeK st).enc :=
  ⟨_, rfl, _, _, rfl, ⟨_, rfl, in64k 0 (by omega)⟩, _, _, rfl, ⟨_, rfl, in64k 0 (by omega)⟩,
    _, _, rfl, has_listI (show lenOk jobT 1 from ⟨by decide, by decide⟩) (fun x hx => by
      obtain rfl : x = jobK.enc := by simpa [storeK] using hx
      exact has_jobK),
    _, _, rfl, has_nil jobT, _, _, rfl, has_nil nodeT, _, _, rfl, has_listI (show lenOk allocT 2 from ⟨by decide, by decide⟩) (fun x hx => by
      have hx' : x = (alc 5 0 st).enc ∨ x = (alc 6 1 2).enc := by simpa [storeK] using hx
      rcases hx' with rfl | rfl
      · exact has_alc (in64k 5 (by omega)) (in64k 0 (by omega)) h
      · exact has_alc (in64k 6 (by omega)) (in64k 1 (by omega)) (in64k 2 (by omega))),
    _, _, rfl, has_nil evalT, _, _, rfl, has_nil evalT, _, _, rfl, has_nil seenT, rfl⟩
theorem room_storeK (st : Int) : roomD (storeK st) := by
  intro j hj
  have : j = jobK := by simpa [storeK] using hj
  subst this
  have h1 : (slotsL (storeK st) jobK).length = 2 := rfl
  have h4 : (storeK st).Allocs.length = 2 := rfl
  rw [h1, h4]; omega

/-- What the caller knows behind a call of Diff. -/
def AfterDiff (W : World) (S : Foot) (st : List Int) (fl : List (Int × Int)) (e : Ending) (w' : World) : Prop :=
  ∃ v0 v1 S', e = .returned (.tuple [v0, v1].toArray) ∧ Below W.heap.size W w' ∧ (∀ b o, S b o → S' b o) ∧ Rep w' S' v0 (ints st) ∧ Rep w' S' v1 (encL slotE fl)
theorem call_diff {W : World} {S : Foot} {x : Value} {s : AStore} (hlt : ∀ b o, S b o → b < W.heap.size) (hx : Rep W S x s.enc) (hh : Has storeT s.enc) (hr : roomJ s 1) :
    Calls Try.prog 8 [x, .int .i64 1].toArray W (AfterDiff W S (diffL s 1).1 (diffL s 1).2) := by
  refine (c8p.calls rfl W S [x, .int .i64 1] [s.enc, .int .i64 1] hlt rfl ?_ ⟨_, _, rfl, hh, _, _, rfl, ⟨_, rfl, by decide⟩, rfl⟩ (by rw [show pre 8 [s.enc, .int .i64 1] = roomJ (AStore.dec s.enc) 1 from rfl, AStore.dec_enc]; exact hr)).mono ?_
  · intro i v d hv hd
    match i, hv, hd with
    | 0, hv, hd => simp at hv hd; subst hv hd; exact hx
    | 1, hv, hd => simp at hv hd; subst hv hd; exact .int _ _
    | i + 2, hv, hd => simp at hv
  · rintro e w' ⟨v, S', τ, rfl, hb, hSS, -, -, hres, -, -, -⟩
    have hphi : phi 8 [s.enc, .int .i64 1] = .tup [ints (diffL s 1).1, encL slotE (diffL s 1).2] := by
      show D.tup [ints (diffL (AStore.dec s.enc) 1).1, encL slotE (diffL (AStore.dec s.enc) 1).2] = _
      rw [AStore.dec_enc]
    rw [hphi] at hres
    rcases hres with ⟨c, hc, _⟩ | ⟨hn, us, dd, rfl, hd, hl1, hl2, hcomp⟩
    · have hc2 : (2 : Nat) = 1 := congrArg List.length hc
      omega
    obtain ⟨u0, u1, rfl⟩ : ∃ x y, us = [x, y] := by
      match us, hl1 with
      | [x, y], _ => exact ⟨x, y, rfl⟩
    injection hd with hd
    subst hd
    have k0 := hcomp 0 _ u0 _ rfl rfl rfl
    have k1 := hcomp 1 _ u1 _ rfl rfl rfl
    unfold CompOk at k0 k1
    simp only [Bool.false_eq_true, if_false] at k0 k1
    obtain ⟨y0, e0, k0⟩ := k0
    obtain ⟨y1, e1, k1⟩ := k1
    injection e0 with e0 _
    injection e1 with e1 _
    subst e0 e1
    exact ⟨u0, u1, S', rfl, hb, hSS, k0.1, k1.1⟩

def knownV (A2 A3 A4 A6 A7 A8 : Option Addr) (c2 c3 c4 c6 c7 c8 b cap : Nat) : List Value :=
  [.int .i64 0, .int .i64 0, .slice A2 1 c2, .slice A3 0 c3, .slice A4 0 c4, .slice (some ⟨b, 0, none⟩) 2 cap, .slice A6 0 c6, .slice A7 0 c7, .slice A8 0 c8]
def AfterKnown (W : World) (S : Foot) (e : Ending) (w' : World) : Prop :=
  ∃ A2 A3 A4 A6 A7 A8 c2 c3 c4 c6 c7 c8 b cap cur S', e = .returned (.agg (knownV A2 A3 A4 A6 A7 A8 c2 c3 c4 c6 c7 c8 b cap).toArray) ∧ Below W.heap.size W w' ∧ (∀ b o, S b o → S' b o) ∧ (∀ b o, S' b o → b < w'.heap.size) ∧
    Rep w' S' (.slice A2 1 c2) (encL AJob.enc [jobK]) ∧ w'.heap[b]? = some (.cells cur 40 (0, 0)) ∧ W.heap.size ≤ b ∧ (∀ o, ¬ S' b o) ∧ 2 ≤ cap ∧ 22 ≤ cur.size ∧ cur.toList.take 22 = alcV 5 0 2 ++ alcV 6 1 2
theorem call_known {W : World} {S : Foot} (hlt : ∀ b o, S b o → b < W.heap.size) : Calls Try.prog 24 ([] : List Value).toArray W (AfterKnown W S) := by
  refine (cknownX.calls rfl W S [] [] hlt rfl (by intro i v d hv; simp at hv) rfl trivial).mono ?_
  rintro e w' ⟨v, S', τ, rfl, hb, hSS, hSlt, -, hres, hown, -, -⟩
  have hphi : phi 24 [] = .agg [.int .i64 0, .int .i64 0, encL AJob.enc [jobK], .list [], .list [], encL AAlc.enc [alc 5 0 2, alc 6 1 2], .list [], .list [], .list []] := rfl
  rw [hphi] at hres
  rcases hres with ⟨c, hc, hcomp⟩ | ⟨hn, _⟩
  · injection hc with hc _
    subst hc
    unfold CompOk at hcomp
    simp only [if_true] at hcomp
    obtain ⟨vs, ds, rfl, hd, hl1, hl2, hcell⟩ := hcomp
    injection hd with hd
    subst hd
    obtain ⟨x0, x1, x2, x3, x4, x5, x6, x7, x8, rfl⟩ : ∃ x0 x1 x2 x3 x4 x5 x6 x7 x8, vs = [x0, x1, x2, x3, x4, x5, x6, x7, x8] := by
      match vs, hl1 with
      | [x0, x1, x2, x3, x4, x5, x6, x7, x8], _ => exact ⟨x0, x1, x2, x3, x4, x5, x6, x7, x8, rfl⟩
    obtain ⟨r0, -⟩ := hcell 0 _ x0 _ rfl rfl rfl
    obtain ⟨r1, -⟩ := hcell 1 _ x1 _ rfl rfl rfl
    obtain ⟨r2, -⟩ := hcell 2 _ x2 _ rfl rfl rfl
    obtain ⟨r3, -⟩ := hcell 3 _ x3 _ rfl rfl rfl
    obtain ⟨r4, -⟩ := hcell 4 _ x4 _ rfl rfl rfl
    obtain ⟨e5, r5⟩ := hcell 5 _ x5 _ rfl rfl rfl
    obtain ⟨r6, -⟩ := hcell 6 _ x6 _ rfl rfl rfl
    obtain ⟨r7, -⟩ := hcell 7 _ x7 _ rfl rfl rfl
    obtain ⟨r8, -⟩ := hcell 8 _ x8 _ rfl rfl rfl
    obtain rfl := r0.inv_int
    obtain rfl := r1.inv_int
    obtain ⟨A2, c2, rfl⟩ := r2.inv_list
    obtain ⟨A3, c3, rfl⟩ := r3.inv_list
    obtain ⟨A4, c4, rfl⟩ := r4.inv_list
    obtain ⟨A6, c6, rfl⟩ := r6.inv_list
    obtain ⟨A7, c7, rfl⟩ := r7.inv_list
    obtain ⟨A8, c8, rfl⟩ := r8.inv_list
    obtain ⟨xs, l, hl, ho, hS, hr⟩ := r5.own
    injection hl with hl
    subst hl
    have hob := hown 1000 
    subst e5
    obtain ⟨hlen, hh⟩ := ho
    rcases hh with ⟨_, hn⟩ | ⟨b, cap, cur, hv, -, hgb, hnc, hcm, hcs, htake⟩
    · exact absurd hn (by simp)
    have hobb : (τ 1000).ownBlock = some b := by rw [hv]; rfl
    refine ⟨A2, A3, A4, A6, A7, A8, c2, c3, c4, c6, c7, c8, b, cap, cur, S', by rw [hv]; rfl, hb, hSS, hSlt, r2, hgb, hob b (by decide) hobb, fun o ho => ?_, hnc, ?_, ?_⟩
    · have := (hS b hobb o).1 ho
      exact absurd this.1 (by decide)
    · rw [hcs]
      have : allocT.cells.length = 11 := rfl
      rw [this]; have : 2 ≤ cap := hnc
      omega
    · have hlc : allocT.cells.length = 11 := rfl
      have htk : cur.toList.take 22 = xs := htake
      rw [htk]
      have hl22 : xs.length = 22 := hlen
      have key : ∀ (i : Nat) d (j : Nat) v c, [(alc 5 0 2).enc, (alc 6 1 2).enc][i]? = some d → d.cells[j]? = some c → xs[i * 11 + j]? = some v → Rep w' S' v c := hr
      match xs, hl22 with
      | [y0, y1, y2, y3, y4, y5, y6, y7, y8, y9, y10, z0, z1, z2, z3, z4, z5, z6, z7, z8, z9, z10], _ =>
        obtain rfl := (key 0 _ 0 y0 _ rfl rfl rfl).inv_int
        obtain rfl := (key 0 _ 1 y1 _ rfl rfl rfl).inv_int
        obtain rfl := (key 0 _ 2 y2 _ rfl rfl rfl).inv_int
        obtain rfl := (key 0 _ 3 y3 _ rfl rfl rfl).inv_int
        obtain rfl := (key 0 _ 4 y4 _ rfl rfl rfl).inv_int
        obtain rfl := (key 0 _ 5 y5 _ rfl rfl rfl).inv_int
        obtain rfl := (key 0 _ 6 y6 _ rfl rfl rfl).inv_int
        obtain rfl := (key 0 _ 7 y7 _ rfl rfl rfl).inv_int
        obtain rfl := (key 0 _ 8 y8 _ rfl rfl rfl).inv_int
        obtain rfl := (key 0 _ 9 y9 _ rfl rfl rfl).inv_bool
        obtain rfl := (key 0 _ 10 y10 _ rfl rfl rfl).inv_int
        obtain rfl := (key 1 _ 0 z0 _ rfl rfl rfl).inv_int
        obtain rfl := (key 1 _ 1 z1 _ rfl rfl rfl).inv_int
        obtain rfl := (key 1 _ 2 z2 _ rfl rfl rfl).inv_int
        obtain rfl := (key 1 _ 3 z3 _ rfl rfl rfl).inv_int
        obtain rfl := (key 1 _ 4 z4 _ rfl rfl rfl).inv_int
        obtain rfl := (key 1 _ 5 z5 _ rfl rfl rfl).inv_int
        obtain rfl := (key 1 _ 6 z6 _ rfl rfl rfl).inv_int
        obtain rfl := (key 1 _ 7 z7 _ rfl rfl rfl).inv_int
        obtain rfl := (key 1 _ 8 z8 _ rfl rfl rfl).inv_int
        obtain rfl := (key 1 _ 9 z9 _ rfl rfl rfl).inv_bool
        obtain rfl := (key 1 _ 10 z10 _ rfl rfl rfl).inv_int
        rfl
  · exact absurd rfl hn
theorem start0 {n : Nat} : Kn n { tmps := (([] : List Value).toArray) ++ Array.replicate (n - (([] : List Value).toArray).size) undef, defers := [] } [] := by
  refine ⟨by simp, rfl, fun t v ht => by simp [lk] at ht⟩
theorem exec_pickT {P : Program} {a : Act} {w : World} {dst : Option Nat} {ty : TypeId} {pos : String} {af : Array Edge} {gd : Option (Nat × Bool)} {c x y : Operand} {v : Value} (hc : a.eval c = .bool true) (hv : a.eval x = v) : (execOp a.eval ⟨dst, .pick c x y, ty, pos, af, gd⟩).run P w = .ok (.value v) w :=
  exec_pick hc (by rw [if_pos rfl]; exact hv)
theorem exec_eq1 {P : Program} {a : Act} {w : World} {dst : Option Nat} {ty : TypeId} {pos : String} {af : Array Edge} {gd : Option (Nat × Bool)} {t t2 : TypeId} {x y : Operand} {k : IntKind} {m : Int} (hx : a.eval x = .int k m) (hy : a.eval y = .int k m) : (execOp a.eval ⟨dst, .binOp .eql t x y t2, ty, pos, af, gd⟩).run P w = .ok (.value (.bool true)) w := by
  rw [exec_eql hx hy]; simp
theorem exec_lenV {P : Program} {a : Act} {w : World} {dst : Option Nat} {ty : TypeId} {pos : String} {af : Array Edge} {gd : Option (Nat × Bool)} {t el : TypeId} {x : Operand} {A : Option Addr} {n c : Nat} {m : Int} (hu : P.underlying t = some (.slice el)) (hx : a.eval x = .slice A n c) (hm : (n : Int) = m) : (execOp a.eval ⟨dst, .call { callee := .builtin .len, args := #[x], argTypes := #[t] }, ty, pos, af, gd⟩).run P w = .ok (.value (.int .i64 m)) w := by
  rw [exec_len hu hx, hm]
theorem exec_eqS {a : Act} {w : World} {dst : Option Nat} {ty : TypeId} {pos : String} {af : Array Edge} {gd : Option (Nat × Bool)} {x y : Operand} (hx : a.eval x = .agg [Value.int .i64 0, .int .i64 0].toArray) (hy : a.eval y = .agg [Value.int .i64 0, .int .i64 0].toArray) :
    (execOp a.eval ⟨dst, .binOp .eql 36 x y 36, ty, pos, af, gd⟩).run Try.prog w = .ok (.value (.bool true)) w := by
  have h0 : (eqE Try.prog fuelT 36 (cellsE (.var 0) 0 [.int .i64, .int .i64]) (cellsE (.var 0) 0 [.int .i64, .int .i64])).map (fun e => (den (fun _ => slotE (0, 0)) e).toB) = some true := by kernel_rfl
  obtain ⟨e, he, hd⟩ := Option.map_eq_some_iff.1 h0
  have hrc : RepC (fun _ => slotE (0, 0)) w (fun _ _ => False) [Value.int .i64 0, .int .i64 0] (cellsE (.var 0) 0 [.int .i64, .int .i64]) := by
    refine ⟨rfl, fun i v x hv hx => ?_⟩
    match i, hv, hx with
    | 0, hv, hx | 1, hv, hx => simp at hv; simp [cellsE] at hx; subst hv hx; exact ⟨.int _ _, _, rfl, by decide⟩
    | i + 2, hv, hx => simp at hv
  have k1 := (eqE_ok (P := Try.prog) (w := w) (fun _ => slotE (0, 0)) (fun _ _ => False) fuelT 36 _ _ e he _ _ 9992 hrc hrc).1
  have ha : aggT Try.prog 36 = true := by kernel_rfl
  simp only [Eng.valOf, ha, if_true, fuelT] at k1
  have hexec : (execOp a.eval ⟨dst, .binOp .eql 36 x y 36, ty, pos, af, gd⟩) = (do let v ← (do eqGuard .eql 36 x y (a.eval x) (a.eval y); binOp .eql 36 (a.eval x) (a.eval y) : Sem Value); pure (.value v)) := by unfold execOp; rfl
  rw [hexec, hx, hy, Sem.run_bind, Sem.run_bind, run_eqGuard_agg w .eql 36 x y _ _ (by kernel_rfl)]
  simp only [Result.andThen_ok]
  rw [run_eql_struct, k1, hd]
  rfl

theorem wpOps_nil {P : Program} {ops : Array Oper} {Q : Exit → Act → World → Prop} {a : Act} {w : World} (h : Q .normal a w) : wpOps P ops Q [] a w := h
attribute [local irreducible] wpOps
set_option maxHeartbeats 1000000 in
theorem lives_ok : PureFn Try.prog 10 s10 (pre 10) (phi 10) where
  enter := f10_enter
  ocalls ob hob := by cases hob
  pcalls ob hob := by cases hob
  calls := by
    intro _ w S vs ds hSlt hlen hrep hty _
    have hds : ds = [] := hty
    subst hds
    obtain rfl : vs = [] := List.eq_nil_of_length_eq_zero (by simpa using hlen)
    refine calls_of_wp Try.func10 f10_body ?_
    have fin : ∀ {a : Act} {W : World} {m : List (Nat × Value)}, Kn 52 a m → lk m 0 = some (.bool true) → Below w.heap.size w W →
        bodyPost Try.prog Try.f10 (fun e w' => ∃ v S' τ, e = .returned v ∧ Below w.heap.size w w' ∧ (∀ b o, S b o → S' b o) ∧ (∀ b o, S' b o → b < w'.heap.size) ∧ (∀ b o, S' b o → S b o ∨ w.heap.size ≤ b) ∧
          ResOk w' 0 S' τ s10.res v (phi 10 []) ∧ (∀ j b, j ∈ ownIdx s10.res → (τ j).ownBlock = some b → w.heap.size ≤ b) ∧ (∀ j k b, j ∈ ownIdx s10.res → k ∈ ownIdx s10.res → (τ j).ownBlock = some b → (τ k).ownBlock = some b → j = k) ∧
          ∀ j, j ∈ ownIdx s10.res → frN j = true → FrV (fun b => w.heap.size ≤ b) w' S' (τ j)) .ret a W := by
      intro a W m hk h0 hB
      refine ⟨hk.2.1, .bool true, ?_, .bool true, S, fun _ => .bool true, rfl, hB, fun _ _ h => h, fun b o h => Nat.lt_of_lt_of_le (hSlt b o h) hB.size, fun _ _ h => .inl h, .inl ⟨(false, [(.bool, none)]), rfl, ?_⟩, ?_, ?_, ?_⟩
      · refine run_results (vs := [.bool true]) ?_
        have hv := hk.2.2 0 _ h0
        have hr : (readRes a (.tmp 0)).run Try.prog W = .ok (.bool true) W := by simp [readRes, hv]
        show ([ResultVar.tmp 0].mapM (m := Sem) _).run _ _ = _
        simp [hr]
      · unfold CompOk
        simp only [Bool.false_eq_true, if_false]
        exact ⟨_, rfl, .bool true, has_bool.2 ⟨true, rfl⟩⟩
      · intro j b hj; exact absurd hj (by simp [ownIdx, s10])
      · intro j k b hj; exact absurd hj (by simp [ownIdx, s10])
      · intro j hj; exact absurd hj (by simp [ownIdx, s10])
    generalize bodyPost Try.prog Try.f10 _ = Q at fin ⊢
    have k0 : Kn 52 _ [] := start0
    rw [show Try.f10.ntmps = 52 from f10_nt]
    generalize Act.mk _ _ = a0 at k0 ⊢
    rw [body10]
    -- the result's start
    refine wp_seq (wp_region ?_)
    rw [l0_n, show List.range 1 = [0] from by decide]
    obtain ⟨_, _, _, h⟩ := l0_0
    refine wpOps_val h (exec_assignV rfl) ?_
    have k1 := k0.put 0 (.bool false) (by decide)
    refine wpOps_nil ?_
    show (Code.seq _ _).wp _ _ (Act.put _ _ (.bool false)) _
    -- the store
    refine wp_seq (wp_region ?_)
    rw [l1_n, show List.range 3 = [0, 1, 2] from by decide]
    obtain ⟨_, _, _, h⟩ := l1_0
    refine wpOps_call h (exec_call cknownX.enter map0) (call_known hSlt) ?_
    rintro e w1 ⟨A2, A3, A4, A6, A7, A8, c2, c3, c4, c6, c7, c8, b, cap, cur, S1, rfl, hb1, hSS1, hS1lt, hjobs, hgb, hbnew, hSb, hcap, hcur, htake⟩
    refine ⟨_, rfl, ?_⟩
    have hblt : b < w1.heap.size := (Array.getElem?_eq_some_iff.1 hgb).1
    have k2 := k1.put 5 (.agg (knownV A2 A3 A4 A6 A7 A8 c2 c3 c4 c6 c7 c8 b cap).toArray) (by decide)
    obtain ⟨_, _, _, h⟩ := l1_1
    obtain ⟨zs, hzs, hal⟩ := exec_alloc (P := Try.prog) (w := w1) (a := Act.put (Act.put a0 (some 0) (.bool false)) (some 5) (.agg (knownV A2 A3 A4 A6 A7 A8 c2 c3 c4 c6 c7 c8 b cap).toArray)) (t := 29) (n := 9) (by kernel_rfl)
    refine wpOps_val h hal ?_
    have k3 := k2.put 1 (.pointer (some ⟨w1.heap.size, 0, none⟩)) (by decide)
    have hN := heap_alloc_new w1 (.cells zs 29)
    have hold : ∀ i, i < w1.heap.size → (w1.alloc (.cells zs 29)).heap[i]? = w1.heap[i]? := fun i hi => Below.heap_alloc w1 _ i hi
    have hb2 : Below w.heap.size w (w1.alloc (.cells zs 29)) := hb1.trans ⟨rfl, rfl, rfl, by simp, fun k hk => hold k (Nat.lt_of_lt_of_le hk hb1.size)⟩
    have hsz2 : (w1.alloc (.cells zs 29)).heap.size = w1.heap.size + 1 := by simp
    generalize hN0 : w1.heap.size = N at k3 hN hold hS1lt hblt hsz2 ⊢
    generalize w1.alloc (.cells zs 29) = w2 at hN hold hb2 hsz2 ⊢
    obtain ⟨_, _, _, h⟩ := l1_2
    refine wpOps_skip h (exec_store (P := Try.prog) (T := 29) (cur := zs) (vs := knownV A2 A3 A4 A6 A7 A8 c2 c3 c4 c6 c7 c8 b cap) (by kernel_rfl) (k3.ev rfl) (by rw [k3.ev rfl]; rfl) hN (by rw [hzs]; exact Nat.le_refl 9) (by
      intro v hv
      simp only [knownV, List.mem_cons, List.not_mem_nil, or_false] at hv
      rcases hv with rfl | rfl | rfl | rfl | rfl | rfl | rfl | rfl | rfl <;> rfl)) ?_
    have hcut : (zs.toList.take 0 ++ knownV A2 A3 A4 A6 A7 A8 c2 c3 c4 c6 c7 c8 b cap ++ zs.toList.drop (0 + (knownV A2 A3 A4 A6 A7 A8 c2 c3 c4 c6 c7 c8 b cap).length)).toArray = (knownV A2 A3 A4 A6 A7 A8 c2 c3 c4 c6 c7 c8 b cap).toArray := by
      have hl9 : (knownV A2 A3 A4 A6 A7 A8 c2 c3 c4 c6 c7 c8 b cap).length = 9 := rfl
      have : zs.toList.drop (0 + 9) = [] := by simp [hzs]
      rw [hl9, this]; simp
    rw [hcut]
    have hNw : w.heap.size ≤ N := hN0 ▸ hb1.size
    have hb3 : Below w.heap.size w (w2.setRow N (knownV A2 A3 A4 A6 A7 A8 c2 c3 c4 c6 c7 c8 b cap).toArray) := below_setRow hb2 hNw
    have hN3 := setRow_heap w2 N zs (knownV A2 A3 A4 A6 A7 A8 c2 c3 c4 c6 c7 c8 b cap).toArray 29 _ hN
    have hold3 : ∀ i, i < N → (w2.setRow N (knownV A2 A3 A4 A6 A7 A8 c2 c3 c4 c6 c7 c8 b cap).toArray).heap[i]? = w1.heap[i]? := fun i hi => (setRow_other w2 N i _ (by omega)).trans (hold i hi)
    have hsz3 : (w2.setRow N (knownV A2 A3 A4 A6 A7 A8 c2 c3 c4 c6 c7 c8 b cap).toArray).heap.size = N + 1 := by rw [size_setRow]; exact hsz2
    generalize w2.setRow N (knownV A2 A3 A4 A6 A7 A8 c2 c3 c4 c6 c7 c8 b cap).toArray = w3 at hb3 hN3 hold3 hsz3 ⊢
    clear hcut hN hold hb2 hsz2
    have k4 := k3.sub (l := [(1, .pointer (some ⟨N, 0, none⟩))]) ⟨rfl, trivial⟩
    clear k0 k1 k2 k3 h
    refine wpOps_nil ?_
    show (Code.seq _ _).wp _ _ (Act.put _ _ (.pointer _)) _
    generalize Act.put _ _ (.pointer _) = a1 at k4 ⊢
    -- the first reading
    have hrepV : ∀ {W : World} {S2 : Foot} {st : Int}, Rep W S2 (.slice A2 1 c2) (encL AJob.enc [jobK]) → Rep W S2 (.slice (some ⟨b, 0, none⟩) 2 cap) (encL AAlc.enc [alc 5 0 st, alc 6 1 2]) →
        Rep W S2 (.agg (knownV A2 A3 A4 A6 A7 A8 c2 c3 c4 c6 c7 c8 b cap).toArray) (storeK st).enc := by
      intro W S2 st h1 h2
      refine .agg _ (storeK st).enc.toL rfl ?_
      intro i v d hv hd
      match i, hv, hd with
      | 0, hv, hd | 1, hv, hd => simp [knownV] at hv; simp [AStore.toL, storeK] at hd; subst hv hd; exact .int _ _
      | 2, hv, hd => simp [knownV] at hv; simp [AStore.toL, storeK] at hd; subst hv hd; exact h1
      | 3, hv, hd | 4, hv, hd | 6, hv, hd | 7, hv, hd | 8, hv, hd => simp [knownV] at hv; simp [AStore.toL, storeK, encL] at hd; subst hv hd; exact .nil _ _
      | 5, hv, hd => simp [knownV] at hv; simp [AStore.toL, storeK] at hd; subst hv hd; exact h2
      | i + 9, hv, hd => simp [knownV] at hv
    have hcells : ∀ {W : World}, W.heap[N]? = some (.cells (knownV A2 A3 A4 A6 A7 A8 c2 c3 c4 c6 c7 c8 b cap).toArray 29 (0, 0)) → ∀ (j : Nat) v, (knownV A2 A3 A4 A6 A7 A8 c2 c3 c4 c6 c7 c8 b cap)[j]? = some v → W.cell? ⟨N, 0 + j, none⟩ = some v := by
      intro W hW j v hj
      rw [Nat.zero_add, cell_of_row W N j _ 29 (0, 0) hW]
      simpa using hj
    have hS2lt : ∀ b' o, (S1 b' o ∨ (b' = b ∧ o < 22)) → b' < N := by
      rintro b' o (h | ⟨rfl, _⟩)
      · exact hS1lt b' o h
      · exact hblt
    refine wp_seq (wp_region ?_)
    rw [l2_n, show List.range 7 = [0, 1, 2, 3, 4, 5, 6] from by decide]
    obtain ⟨_, _, _, h⟩ := l2_0
    refine wpOps_val h (exec_loadN (n := 9) (by kernel_rfl) (by kernel_rfl) (k4.ev rfl) rfl (hcells hN3)) ?_
    have k5 := k4.put 7 (.agg (knownV A2 A3 A4 A6 A7 A8 c2 c3 c4 c6 c7 c8 b cap).toArray) (by decide)
    have hjobs3 : Rep w3 (fun b' o => S1 b' o ∨ (b' = b ∧ o < 22)) (.slice A2 1 c2) (encL AJob.enc [jobK]) := hjobs.keep (fun _ _ h => .inl h) (fun b' o h => World.cell?_of_block (hold3 b' (hS1lt b' o h)))
    have halc3 : Rep w3 (fun b' o => S1 b' o ∨ (b' = b ∧ o < 22)) (.slice (some ⟨b, 0, none⟩) 2 cap) (encL AAlc.enc [alc 5 0 2, alc 6 1 2]) := rep_allocs ((hold3 b hblt).trans hgb) hcap htake (fun o ho => .inr ⟨rfl, ho⟩)
    obtain ⟨_, _, _, h⟩ := l2_1
    refine wpOps_call h (exec_call c8p.enter (map2 (k5.ev rfl) rfl)) (call_diff (S := fun b' o => S1 b' o ∨ (b' = b ∧ o < 22)) (fun b' o h => by rw [hsz3]; have := hS2lt b' o h; omega) (hrepV hjobs3 halc3) (has_storeK 2 (in64k 2 (by omega))) ((room_storeK 2).j 1)) ?_
    rw [diffK]
    rintro e w4 ⟨v0, v1, S4, rfl, hb4, hSS4, hv0, hv1⟩
    refine ⟨_, rfl, ?_⟩
    obtain ⟨A0, c0, e0⟩ := hv0.inv_list
    obtain ⟨A1, c1, e1⟩ := hv1.inv_list
    obtain rfl : v0 = .slice A0 1 c0 := e0
    obtain rfl : v1 = .slice A1 0 c1 := e1
    have q0 := k5.put 8 (.tuple [.slice A0 1 c0, .slice A1 0 c1].toArray) (by decide)
    obtain ⟨_, _, _, h⟩ := l2_2
    refine wpOps_val h (exec_moveV (q0.ev rfl)) ?_
    have q1 := q0.put 6 (.tuple [.slice A0 1 c0, .slice A1 0 c1].toArray) (by decide)
    obtain ⟨_, _, _, h⟩ := l2_3
    refine wpOps_val h (exec_extract (q1.ev rfl) rfl) ?_
    have q2 := q1.put 9 (.slice A0 1 c0) (by decide)
    obtain ⟨_, _, _, h⟩ := l2_4
    refine wpOps_val h (exec_extract (q2.ev rfl) rfl) ?_
    have q3 := q2.put 10 (.slice A1 0 c1) (by decide)
    obtain ⟨_, _, _, h⟩ := l2_5
    refine wpOps_val h (exec_assignV (q3.ev rfl)) ?_
    have q4 := q3.put 2 (.slice A0 1 c0) (by decide)
    obtain ⟨_, _, _, h⟩ := l2_6
    refine wpOps_val h (exec_assignV (q4.ev rfl)) ?_
    have q5 := q4.put 3 (.slice A1 0 c1) (by decide)
    have q6 := q5.sub (l := [(1, .pointer (some ⟨N, 0, none⟩)), (2, .slice A0 1 c0), (3, .slice A1 0 c1)]) ⟨rfl, rfl, rfl, trivial⟩
    clear q0 q1 q2 q3 q4 q5 k4 k5 h
    refine wpOps_nil ?_
    show (Code.seq _ _).wp _ _ (Act.put _ (some 3) (.slice A1 0 c1)) _
    generalize Act.put _ (some 3) (.slice A1 0 c1) = a2 at q6 ⊢
    have hb4' : Below w.heap.size w w4 := below_trans hb3 hb4 (by omega)
    have hold4 : ∀ i, i < N + 1 → w4.heap[i]? = w3.heap[i]? := fun i hi => hb4.block i (by omega)
    -- what it told
    refine wp_seq (wp_region ?_)
    rw [l3_n, show List.range 15 = [0, 1, 2, 3, 4, 5, 6, 7, 8, 9, 10, 11, 12, 13, 14] from by decide]
    obtain ⟨_, _, _, h⟩ := l3_0
    refine wpOps_val h (exec_moveV (by exact q6.ev rfl)) ?_
    have k0 := q6.put 11 (.slice A0 1 c0) (by decide)
    obtain ⟨_, _, _, h⟩ := l3_1
    refine wpOps_val h (exec_lenV (el := 3) (m := 1) (by kernel_rfl) (by exact k0.ev rfl) rfl) ?_
    have k1 := k0.put 12 (.int .i64 1) (by decide)
    obtain ⟨_, _, _, h⟩ := l3_2
    refine wpOps_val h (exec_eq1 (k := .i64) (m := 1) (by exact k1.ev rfl) rfl) ?_
    have k2 := k1.put 13 (.bool true) (by decide)
    obtain ⟨_, _, _, h⟩ := l3_3
    refine wpOps_val h (exec_moveV (by exact k2.ev rfl)) ?_
    have k3 := k2.put 14 (.bool true) (by decide)
    obtain ⟨_, _, _, g3⟩ := l3_3
    obtain ⟨_, _, _, h⟩ := l3_4
    refine wpOps_valG h g3 rfl (k3.2.2 14 _ rfl) (exec_moveV (by exact k3.ev rfl)) ?_
    have k4 := k3.put 15 (.slice A0 1 c0) (by decide)
    obtain ⟨bo, offo, capo, u, hvo, hu⟩ := (show Rep w4 S4 (.slice (A0) 1 c0) (.list [.int .i64 5]) from hv0).inv_elem (i := 0) (d := .int .i64 5) (by simp)
    obtain ⟨hu1, hu2, hu3⟩ := hu 0 (.int .i64 5) rfl
    rw [hu3.inv_int] at hu2
    injection hvo with hA0 _ hc0
    subst hA0
    obtain ⟨_, _, _, h⟩ := l3_5
    refine wpOps_valG h g3 rfl (k4.2.2 14 _ rfl) (exec_indexAddrO (el := 3) (sz := 1) (b := bo) (off := offo) (n := 1) (cap := c0) (k := .i64) (m := 0) (by kernel_rfl) (by kernel_rfl) (by exact k4.ev rfl) rfl (by omega) (by omega)) ?_
    have k5 := k4.put 16 (.pointer (some ⟨bo, offo + (0 : Int).toNat * 1, none⟩)) (by decide)
    obtain ⟨_, _, _, h⟩ := l3_6
    refine wpOps_valG h g3 rfl (k5.2.2 14 _ rfl) (exec_load1 (v := .int .i64 5) (by kernel_rfl) (by kernel_rfl) (by exact k5.ev rfl) hu2) ?_
    have k6 := k5.put 17 (.int .i64 5) (by decide)
    obtain ⟨_, _, _, h⟩ := l3_7
    refine wpOps_valG h g3 rfl (k6.2.2 14 _ rfl) (exec_eq1 (k := .i64) (m := 5) (by exact k6.ev rfl) rfl) ?_
    have k7 := k6.put 18 (.bool true) (by decide)
    obtain ⟨_, _, _, h⟩ := l3_8
    refine wpOps_val h (exec_pickT (by exact k7.ev rfl) (by exact k7.ev rfl)) ?_
    have k8 := k7.put 19 (.bool true) (by decide)
    obtain ⟨_, _, _, h⟩ := l3_9
    refine wpOps_val h (exec_moveV (by exact k8.ev rfl)) ?_
    have k9 := k8.put 20 (.bool true) (by decide)
    obtain ⟨_, _, _, g9⟩ := l3_9
    obtain ⟨_, _, _, h⟩ := l3_10
    refine wpOps_valG h g9 rfl (k9.2.2 20 _ rfl) (exec_moveV (by exact k9.ev rfl)) ?_
    have k10 := k9.put 21 (.slice A1 0 c1) (by decide)
    obtain ⟨_, _, _, h⟩ := l3_11
    refine wpOps_valG h g9 rfl (k10.2.2 20 _ rfl) (exec_lenV (el := 36) (m := 0) (by kernel_rfl) (by exact k10.ev rfl) rfl) ?_
    have k11 := k10.put 22 (.int .i64 0) (by decide)
    obtain ⟨_, _, _, h⟩ := l3_12
    refine wpOps_valG h g9 rfl (k11.2.2 20 _ rfl) (exec_eq1 (k := .i64) (m := 0) (by exact k11.ev rfl) rfl) ?_
    have k12 := k11.put 23 (.bool true) (by decide)
    obtain ⟨_, _, _, h⟩ := l3_13
    refine wpOps_val h (exec_pickT (by exact k12.ev rfl) (by exact k12.ev rfl)) ?_
    have k13 := k12.put 24 (.bool true) (by decide)
    obtain ⟨_, _, _, h⟩ := l3_14
    refine wpOps_val h (exec_assignV (by exact k13.ev rfl)) ?_
    have k14 := k13.put 4 (.bool true) (by decide)
    have q0 := k14.sub (l := [(1, .pointer (some ⟨N, 0, none⟩)), (4, .bool true)]) ⟨rfl, rfl, trivial⟩
    clear k0 k1 k2 k3 k4 k5 k6 k7 k8 k9 k10 k11 k12 k13 k14 q6 h g3 g9
    refine wpOps_nil ?_
    show (Code.seq _ _).wp _ _ (Act.put _ (some 4) (.bool true)) _
    generalize Act.put _ (some 4) (.bool true) = a3 at q0 ⊢
    -- it has ended
    have hN4 := (hold4 N (by omega)).trans hN3
    have hgb4 := (hold4 b (by omega)).trans ((hold3 b hblt).trans hgb)
    refine wp_seq (wp_region ?_)
    rw [l4_n, show List.range 5 = [0, 1, 2, 3, 4] from by decide]
    obtain ⟨_, _, _, h⟩ := l4_0
    refine wpOps_val h (exec_fieldAddr (off := 5) (by kernel_rfl) (by exact q0.ev rfl)) ?_
    have k0 := q0.put 25 (.pointer (some ⟨N, 0 + 5, none⟩)) (by decide)
    obtain ⟨_, _, _, h⟩ := l4_1
    refine wpOps_val h (exec_load1 (v := .slice (some ⟨b, 0, none⟩) 2 cap) (by kernel_rfl) (by kernel_rfl) (by exact k0.ev rfl) (hcells hN4 5 _ rfl)) ?_
    have k1 := k0.put 26 (.slice (some ⟨b, 0, none⟩) 2 cap) (by decide)
    obtain ⟨_, _, _, h⟩ := l4_2
    refine wpOps_val h (exec_indexAddrO (el := 40) (sz := 11) (b := b) (off := 0) (n := 2) (cap := cap) (k := .i64) (m := 0) (by kernel_rfl) (by kernel_rfl) (by exact k1.ev rfl) rfl (by omega) (by omega)) ?_
    have k2 := k1.put 27 (.pointer (some ⟨b, 0 + (0 : Int).toNat * 11, none⟩)) (by decide)
    obtain ⟨_, _, _, h⟩ := l4_3
    refine wpOps_val h (exec_fieldAddr (off := 10) (by kernel_rfl) (by exact k2.ev rfl)) ?_
    have k3 := k2.put 28 (.pointer (some ⟨b, 0 + (0 : Int).toNat * 11 + 10, none⟩)) (by decide)
    obtain ⟨_, _, _, h⟩ := l4_4
    refine wpOps_skip h (exec_store (P := Try.prog) (T := 40) (cur := cur) (off := 10) (vs := [.int .i64 5]) (by kernel_rfl) (by exact k3.ev rfl) rfl hgb4 (by simp; omega) (by intro v hv; simp at hv; subst hv; rfl)) ?_
    have htake5 : ((cur.toList.take 10 ++ [Value.int .i64 5] ++ cur.toList.drop (10 + 1)).toArray).toList.take 22 = alcV 5 0 5 ++ alcV 6 1 2 := by
      rw [set_splice (by simp; omega), List.toList_toArray, List.take_set, htake]; rfl
    have hgb5 := setRow_heap w4 b cur (cur.toList.take 10 ++ [Value.int .i64 5] ++ cur.toList.drop (10 + 1)).toArray 40 _ hgb4
    have hb5 : Below w.heap.size w (w4.setRow b (cur.toList.take 10 ++ [Value.int .i64 5] ++ cur.toList.drop (10 + 1)).toArray) := below_setRow hb4' hbnew
    have hold5 : ∀ i, i ≠ b → (w4.setRow b (cur.toList.take 10 ++ [Value.int .i64 5] ++ cur.toList.drop (10 + 1)).toArray).heap[i]? = w4.heap[i]? := fun i hi => setRow_other w4 b i _ hi
    have hsz5 : (w4.setRow b (cur.toList.take 10 ++ [Value.int .i64 5] ++ cur.toList.drop (10 + 1)).toArray).heap.size = w4.heap.size := size_setRow _ _ _
    refine wpOps_nil ?_
    show (Code.seq _ _).wp _ _ (Act.put _ _ (.pointer _)) (w4.setRow b (cur.toList.take 10 ++ [Value.int .i64 5] ++ cur.toList.drop (10 + 1)).toArray)
    generalize w4.setRow b (cur.toList.take 10 ++ [Value.int .i64 5] ++ cur.toList.drop (10 + 1)).toArray = w5 at hgb5 hb5 hold5 hsz5 ⊢
    generalize (cur.toList.take 10 ++ [Value.int .i64 5] ++ cur.toList.drop (10 + 1)).toArray = cur5 at htake5 hgb5
    have q1 := k3.sub (l := [(1, .pointer (some ⟨N, 0, none⟩)), (4, .bool true)]) ⟨rfl, rfl, trivial⟩
    clear k0 k1 k2 k3 q0 h
    generalize Act.put _ _ (.pointer _) = a4 at q1 ⊢
    -- the second reading
    have hbN : N ≠ b := by omega
    have hN5 := (hold5 N hbN).trans hN4
    have hsz4 := hb4.size
    refine wp_seq (wp_region ?_)
    rw [l5_n, show List.range 7 = [0, 1, 2, 3, 4, 5, 6] from by decide]
    obtain ⟨_, _, _, h⟩ := l5_0
    refine wpOps_val h (exec_loadN (n := 9) (by kernel_rfl) (by kernel_rfl) (by exact q1.ev rfl) rfl (hcells hN5)) ?_
    have k5 := q1.put 30 (.agg (knownV A2 A3 A4 A6 A7 A8 c2 c3 c4 c6 c7 c8 b cap).toArray) (by decide)
    have hjobs5 : Rep w5 (fun b' o => S1 b' o ∨ (b' = b ∧ o < 22)) (.slice A2 1 c2) (encL AJob.enc [jobK]) := hjobs.keep (fun _ _ h => .inl h) (fun b' o h => World.cell?_of_block (by
      have h1 := hS1lt b' o h
      have h2 : b' ≠ b := fun e => hSb o (e ▸ h)
      rw [hold5 b' h2, hold4 b' (by omega), hold3 b' h1]))
    have halc5 : Rep w5 (fun b' o => S1 b' o ∨ (b' = b ∧ o < 22)) (.slice (some ⟨b, 0, none⟩) 2 cap) (encL AAlc.enc [alc 5 0 5, alc 6 1 2]) := rep_allocs hgb5 hcap htake5 (fun o ho => .inr ⟨rfl, ho⟩)
    obtain ⟨_, _, _, h⟩ := l5_1
    refine wpOps_call h (exec_call c8p.enter (map2 (by exact k5.ev rfl) rfl)) (call_diff (S := fun b' o => S1 b' o ∨ (b' = b ∧ o < 22)) (fun b' o h => by rw [hsz5]; have := hS2lt b' o h; omega) (hrepV hjobs5 halc5) (has_storeK 5 (in64k 5 (by omega))) ((room_storeK 5).j 1)) ?_
    rw [diffK2]
    rintro e w6 ⟨v0, v1, S6, rfl, hb6, hSS6, hw0, hw1⟩
    refine ⟨_, rfl, ?_⟩
    obtain ⟨B0, d0, e0⟩ := hw0.inv_list
    obtain ⟨B1, d1, e1⟩ := hw1.inv_list
    obtain rfl : v0 = .slice B0 0 d0 := e0
    obtain rfl : v1 = .slice B1 1 d1 := e1
    have p0 := k5.put 31 (.tuple [.slice B0 0 d0, .slice B1 1 d1].toArray) (by decide)
    obtain ⟨_, _, _, h⟩ := l5_2
    refine wpOps_val h (exec_moveV (by exact p0.ev rfl)) ?_
    have p1 := p0.put 29 (.tuple [.slice B0 0 d0, .slice B1 1 d1].toArray) (by decide)
    obtain ⟨_, _, _, h⟩ := l5_3
    refine wpOps_val h (exec_extract (by exact p1.ev rfl) rfl) ?_
    have p2 := p1.put 32 (.slice B0 0 d0) (by decide)
    obtain ⟨_, _, _, h⟩ := l5_4
    refine wpOps_val h (exec_extract (by exact p2.ev rfl) rfl) ?_
    have p3 := p2.put 33 (.slice B1 1 d1) (by decide)
    obtain ⟨_, _, _, h⟩ := l5_5
    refine wpOps_val h (exec_assignV (by exact p3.ev rfl)) ?_
    have p4 := p3.put 2 (.slice B0 0 d0) (by decide)
    obtain ⟨_, _, _, h⟩ := l5_6
    refine wpOps_val h (exec_assignV (by exact p4.ev rfl)) ?_
    have p5 := p4.put 3 (.slice B1 1 d1) (by decide)
    have p6 := p5.sub (l := [(2, .slice B0 0 d0), (3, .slice B1 1 d1), (4, .bool true)]) ⟨rfl, rfl, rfl, trivial⟩
    clear p0 p1 p2 p3 p4 p5 k5 q1 h
    refine wpOps_nil ?_
    show (Code.seq _ _).wp _ _ (Act.put _ (some 3) (.slice B1 1 d1)) _
    generalize Act.put _ (some 3) (.slice B1 1 d1) = a5 at p6 ⊢
    have hb6' : Below w.heap.size w w6 := below_trans hb5 hb6 (by omega)
    -- all of it
    refine wp_seq (wp_region ?_)
    rw [l6_n, show List.range 19 = [0, 1, 2, 3, 4, 5, 6, 7, 8, 9, 10, 11, 12, 13, 14, 15, 16, 17, 18] from by decide]
    obtain ⟨_, _, _, h⟩ := l6_0
    refine wpOps_val h (exec_moveV (by exact p6.ev rfl)) ?_
    have k0 := p6.put 34 (.bool true) (by decide)
    obtain ⟨_, _, _, h⟩ := l6_1
    refine wpOps_val h (exec_moveV (by exact k0.ev rfl)) ?_
    have k1 := k0.put 35 (.bool true) (by decide)
    obtain ⟨_, _, _, g1⟩ := l6_1
    obtain ⟨_, _, _, h⟩ := l6_2
    refine wpOps_valG h g1 rfl (k1.2.2 35 _ rfl) (exec_moveV (by exact k1.ev rfl)) ?_
    have k2 := k1.put 36 (.slice B0 0 d0) (by decide)
    obtain ⟨_, _, _, h⟩ := l6_3
    refine wpOps_valG h g1 rfl (k2.2.2 35 _ rfl) (exec_lenV (el := 3) (m := 0) (by kernel_rfl) (by exact k2.ev rfl) rfl) ?_
    have k3 := k2.put 37 (.int .i64 0) (by decide)
    obtain ⟨_, _, _, h⟩ := l6_4
    refine wpOps_valG h g1 rfl (k3.2.2 35 _ rfl) (exec_eq1 (k := .i64) (m := 0) (by exact k3.ev rfl) rfl) ?_
    have k4 := k3.put 38 (.bool true) (by decide)
    obtain ⟨_, _, _, h⟩ := l6_5
    refine wpOps_val h (exec_pickT (by exact k4.ev rfl) (by exact k4.ev rfl)) ?_
    have k5 := k4.put 39 (.bool true) (by decide)
    obtain ⟨_, _, _, h⟩ := l6_6
    refine wpOps_val h (exec_moveV (by exact k5.ev rfl)) ?_
    have k6 := k5.put 40 (.bool true) (by decide)
    obtain ⟨_, _, _, g6⟩ := l6_6
    obtain ⟨_, _, _, h⟩ := l6_7
    refine wpOps_valG h g6 rfl (k6.2.2 40 _ rfl) (exec_moveV (by exact k6.ev rfl)) ?_
    have k7 := k6.put 41 (.slice B1 1 d1) (by decide)
    obtain ⟨_, _, _, h⟩ := l6_8
    refine wpOps_valG h g6 rfl (k7.2.2 40 _ rfl) (exec_lenV (el := 36) (m := 1) (by kernel_rfl) (by exact k7.ev rfl) rfl) ?_
    have k8 := k7.put 42 (.int .i64 1) (by decide)
    obtain ⟨_, _, _, h⟩ := l6_9
    refine wpOps_valG h g6 rfl (k8.2.2 40 _ rfl) (exec_eq1 (k := .i64) (m := 1) (by exact k8.ev rfl) rfl) ?_
    have k9 := k8.put 43 (.bool true) (by decide)
    obtain ⟨_, _, _, h⟩ := l6_10
    refine wpOps_val h (exec_pickT (by exact k9.ev rfl) (by exact k9.ev rfl)) ?_
    have k10 := k9.put 44 (.bool true) (by decide)
    obtain ⟨_, _, _, h⟩ := l6_11
    refine wpOps_val h (exec_moveV (by exact k10.ev rfl)) ?_
    have k11 := k10.put 45 (.bool true) (by decide)
    obtain ⟨_, _, _, g11⟩ := l6_11
    obtain ⟨_, _, _, h⟩ := l6_12
    refine wpOps_valG h g11 rfl (k11.2.2 45 _ rfl) (exec_moveV (by exact k11.ev rfl)) ?_
    have k12 := k11.put 46 (.slice B1 1 d1) (by decide)
    obtain ⟨bo, offo, capo, u, hvo, hu⟩ := (show Rep w6 S6 (.slice (B1) 1 d1) (.list [slotE (0, 0)]) from hw1).inv_elem (i := 0) (d := slotE (0, 0)) (by simp)
    obtain ⟨hu1, hu2, hu3⟩ := hu 0 (.int .i64 0) rfl
    obtain ⟨hx1, hx2, hx3⟩ := hu 1 (.int .i64 0) rfl
    rw [hu3.inv_int] at hu2
    rw [hx3.inv_int] at hx2
    injection hvo with hB1 _ _
    subst hB1
    obtain ⟨_, _, _, h⟩ := l6_13
    refine wpOps_valG h g11 rfl (k12.2.2 45 _ rfl) (exec_indexAddrO (el := 36) (sz := 2) (b := bo) (off := offo) (n := 1) (cap := d1) (k := .i64) (m := 0) (by kernel_rfl) (by kernel_rfl) (by exact k12.ev rfl) rfl (by omega) (by omega)) ?_
    have k13 := k12.put 47 (.pointer (some ⟨bo, offo + (0 : Int).toNat * 2, none⟩)) (by decide)
    obtain ⟨_, _, _, h⟩ := l6_14
    refine wpOps_valG h g11 rfl (k13.2.2 45 _ rfl) (exec_loadN (n := 2) (vs := [.int .i64 0, .int .i64 0]) (by kernel_rfl) (by kernel_rfl) (by exact k13.ev rfl) rfl (by
      intro j v hj
      match j, hj with
      | 0, hj => simp at hj; subst hj; exact hu2
      | 1, hj => simp at hj; subst hj; exact hx2
      | j + 2, hj => simp at hj)) ?_
    have k14 := k13.put 48 (.agg [Value.int .i64 0, .int .i64 0].toArray) (by decide)
    obtain ⟨_, _, _, h⟩ := l6_15
    refine wpOps_valG h g11 rfl (k14.2.2 45 _ rfl) (exec_build (ps := []) (vs := [.int .i64 0, .int .i64 0]) (by simp) (by kernel_rfl)) ?_
    have k15 := k14.put 49 (.agg [Value.int .i64 0, .int .i64 0].toArray) (by decide)
    obtain ⟨_, _, _, h⟩ := l6_16
    refine wpOps_valG h g11 rfl (k15.2.2 45 _ rfl) (exec_eqS (by exact k15.ev rfl) (by exact k15.ev rfl)) ?_
    have k16 := k15.put 50 (.bool true) (by decide)
    obtain ⟨_, _, _, h⟩ := l6_17
    refine wpOps_val h (exec_pickT (by exact k16.ev rfl) (by exact k16.ev rfl)) ?_
    have k17 := k16.put 51 (.bool true) (by decide)
    obtain ⟨_, _, _, h⟩ := l6_18
    refine wpOps_val h (exec_assignV (by exact k17.ev rfl)) ?_
    have k18 := k17.put 0 (.bool true) (by decide)
    refine wpOps_nil ?_
    show Code.ret.wp _ _ _ _
    exact wp_ret (fin k18 rfl hb6')
end Go.Proofs.Ytippnelhkdjknaa
