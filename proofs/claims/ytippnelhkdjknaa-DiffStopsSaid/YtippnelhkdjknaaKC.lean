/-
  The iterator of a job's slots: its contract.
-/
import Derived.Test.YtippnelhkdjknaaKB
namespace Go.Proofs.Ytippnelhkdjknaa
open Go Go.RowKit Go.Eng Go.Proofs

theorem nodesF_in64 : ∀ (l : List ANode) (o : List Int), (∀ n ∈ l, n.Ok) → (∀ i ∈ o, in64 i) → ∀ i ∈ nodesF l o, in64 i
  | [], o, _, ho => ho
  | n :: r, o, hl, ho => by
    unfold nodesF
    refine nodesF_in64 r _ (fun x hx => hl x (by simp [hx])) ?_
    split
    · intro i hi
      rcases List.mem_append.1 hi with h | h
      · exact ho i h
      · simp only [List.mem_singleton] at h; subst h; exact (hl n (by simp)).ID
    · exact ho
theorem idxL_in64 {s : AStore} (hs : s.Ok) (j : AJob) (x : AGrp) : ∀ i ∈ idxL s j x, in64 i := by
  unfold idxL
  split
  · exact nodesF_in64 _ _ hs.Nodes.2 (by simp)
  · intro i hi
    simp only [rangeI, List.mem_map, List.mem_range] at hi
    obtain ⟨k, hk, rfl⟩ := hi
    have := cntG_le x
    exact in64_iff.2 ⟨by omega, by omega⟩
theorem idxL_len {s : AStore} (hs : s.Ok) (j : AJob) (x : AGrp) : (idxL s j x).length ≤ maxLen := by
  unfold idxL
  split
  · have := nodesF_length s.Nodes []
    have := hs.Nodes.1.1
    simp at *; omega
  · rw [rangeI_length]
    have := cntG_le x
    have h5 : 5 ≤ maxLen := by decide
    omega
theorem rep_slot (w : World) (S : Foot) (g i : Int) : Rep w S (.agg [Value.int .i64 g, .int .i64 i].toArray) (slotE (g, i)) := by
  refine .agg _ _ rfl ?_
  intro n v d hv hd
  match n, hv, hd with
  | 0, hv, hd => simp at hv hd; subst hv hd; exact .int _ _
  | 1, hv, hd => simp at hv hd; subst hv hd; exact .int _ _
  | n + 2, hv, hd => simp at hv
theorem has_slot {g i : Int} (hg : in64 g) (hi : in64 i) : Has slotT (slotE (g, i)) := ⟨_, rfl, _, _, rfl, ⟨_, rfl, hg⟩, _, _, rfl, ⟨_, rfl, hi⟩, rfl⟩

set_option maxHeartbeats 2000000 in
theorem it29 : IterFn Try.prog 29 [.box (.ofL jobT.cells), .box (.ofL storeT.cells)] slotT (pre 29) (phi 29) where
  enter := f29_enter
  calls := by
    intro w S vs ds hSlt hlen hrep hty _ l J Jx X0 hJ hJx hXlt hY h0
    obtain ⟨_, _, rfl, ⟨_, rfl, gj⟩, _, _, rfl, ⟨_, rfl, gs⟩, rfl⟩ := hty
    obtain ⟨j, rfl, hj⟩ := job_cells gj
    obtain ⟨s, rfl, hs⟩ := store_cells gs
    obtain ⟨jp, sp, rfl⟩ : ∃ jp sp, vs = [jp, sp] := by
      match vs, hlen with
      | [x, y], _ => exact ⟨x, y, rfl⟩
    have hphi : (phi 29 [.ptr j.enc.toL, .ptr s.enc.toL]).toL = (slotsL s j).map slotE := by
      show ((slotsL (AStore.dec (.ptr s.enc.toL)) (AJob.dec (.ptr j.enc.toL))).map slotE) = _
      rw [job_ptr, store_ptr]
    rw [hphi] at hY ⊢
    obtain ⟨bj, cj, rfl, hcjl, hSj, hcj, hrj⟩ := (hrep 0 jp _ rfl rfl).inv_ptr
    obtain ⟨bs, cs, rfl, hcsl, hSs, hcs, hrs⟩ := (hrep 1 sp _ rfl rfl).inv_ptr
    have hcjl7 : cj.length = 7 := by rw [hcjl, AJob.toL]; rfl
    have hcsl9 : cs.length = 9 := by rw [hcsl, AStore.toL]; rfl
    obtain ⟨v6, hv6⟩ : ∃ v6, cj[6]? = some v6 := ⟨_, List.getElem?_eq_getElem (by omega)⟩
    obtain ⟨v4, hv4⟩ : ∃ v4, cj[4]? = some v4 := ⟨_, List.getElem?_eq_getElem (by omega)⟩
    obtain rfl : v6 = .bool j.Stopped := (hrj 6 v6 _ hv6 (AJob.c6 j)).inv_bool
    obtain ⟨A4, cap4, rfl⟩ := (hrj 4 v4 _ hv4 (AJob.c4 j)).inv_list
    have hlen4 : (j.Groups.map AGrp.enc).length = j.Groups.length := by simp
    refine calls_of_wp Try.func29 f29_body ?_
    have hres : ∀ (tm : Array Value) (W : World), (results Try.f29 tm).run Try.prog W = .ok (.tuple #[]) W := fun tm W => results_none f29_res tm _ W
    generalize hQ : bodyPost Try.prog Try.f29 _ = Q
    have k0 := start3 (n := Try.f29.ntmps) (x := Value.func (.yield l) #[] #[]) (y := Value.pointer (some ⟨bj, 0, none⟩)) (z := Value.pointer (some ⟨bs, 0, none⟩)) rfl (by rw [f29_nt]; decide)
    generalize Act.mk _ _ = a0 at k0 ⊢
    rw [f29_nt] at k0
    rw [body29]
    have fin : ∀ {a : Act} {W : World} {m : List (Nat × Value)}, Kn 32 a m → ((∃ X, J ((slotsL s j).map slotE).length X W) ∨ Jx W) → Q .normal a W ∧ Q .ret a W := by
      intro a W m hk h
      rw [← hQ]
      exact ⟨⟨hk.2.1, _, hres _ _, ⟨_, rfl⟩, h⟩, ⟨hk.2.1, _, hres _ _, ⟨_, rfl⟩, h⟩⟩
    -- is the job stopped?
    refine wp_seq (wp_seq (wp_region ?_))
    rw [o0_n]
    show wpOps _ _ _ [0, 1] _ _
    obtain ⟨_, _, _, h⟩ := o0_0
    refine wpOps_val h (exec_fieldAddr (off := 6) (by kernel_rfl) (k0.ev rfl)) ?_
    have k1 := k0.put 7 (.pointer (some ⟨bj, 0 + 6, none⟩)) (by decide)
    obtain ⟨_, _, _, h⟩ := o0_1
    refine wpOps_val h (exec_load1 (v := .bool j.Stopped) (by kernel_rfl) (by kernel_rfl) (k1.ev rfl) (by rw [Nat.zero_add]; exact hcj 6 _ hv6)) ?_
    have k2 := k1.put 8 (.bool j.Stopped) (by decide)
    show (Code.cond (.tmp 8) .ret .skip).wp _ _ _ _
    by_cases hst : j.Stopped = true
    · rw [hst] at k2 ⊢
      refine wp_cond_true (k2.ev rfl) (wp_ret ?_)
      have hL : slotsL s j = [] := by simp [slotsL, hst]
      exact (fin k2 (.inl ⟨X0, by rw [hL]; exact h0⟩)).2
    have hst' : j.Stopped = false := by simpa using hst
    rw [hst'] at k2 ⊢
    refine wp_cond_false (k2.ev rfl) (wp_skip ?_)
    have hL : slotsL s j = slotsF s j j.Groups 0 := by simp [slotsL, hst']
    generalize hLL : slotsL s j = L at hY fin ⊢
    rw [hLL] at hL
    show (Code.seq _ _).wp _ _ _ _
    refine wp_seq (wp_region ?_)
    rw [o1_n]
    show wpOps _ _ _ [0, 1, 2, 3] _ _
    obtain ⟨_, _, _, h⟩ := o1_0
    refine wpOps_val h (exec_fieldAddr (off := 4) (by kernel_rfl) (k2.ev rfl)) ?_
    have k3 := k2.put 9 (.pointer (some ⟨bj, 0 + 4, none⟩)) (by decide)
    obtain ⟨_, _, _, h⟩ := o1_1
    refine wpOps_val h (exec_load1 (by kernel_rfl) (by kernel_rfl) (k3.ev rfl) (by rw [Nat.zero_add]; exact hcj 4 _ hv4)) ?_
    have k4 := k3.put 10 (.slice A4 (j.Groups.map AGrp.enc).length cap4) (by decide)
    obtain ⟨_, _, _, h⟩ := o1_2
    refine wpOps_val h (exec_len (el := 65) (by kernel_rfl) (k4.ev rfl)) ?_
    have k5 := k4.put 11 (.int .i64 ((j.Groups.map AGrp.enc).length : Int)) (by decide)
    obtain ⟨_, _, _, h⟩ := o1_3
    refine wpOps_val h exec_move ?_
    have k6 := k5.put 12 (.int .i64 0) (by decide)
    rw [hlen4] at k6
    show (Code.block 0 (.loop out29)).wp _ _ (Act.put _ _ (.int .i64 0)) _
    have k7 := k6.sub (l := [(0, .func (.yield l) #[] #[]), (1, .pointer (some ⟨bj, 0, none⟩)), (2, .pointer (some ⟨bs, 0, none⟩)), (11, .int .i64 (j.Groups.length : Int)), (12, .int .i64 0)]) ⟨rfl, rfl, rfl, rfl, rfl, trivial⟩
    rw [hlen4]
    clear k0 k1 k2 k3 k4 k5 k6 h
    generalize Act.put _ _ (.int .i64 0) = a1 at k7 ⊢
    refine wp_block (wp_loop_ghost (fun m a W => ∃ (g : Nat) (Pz : List (Int × Int)) (X : Nat → Prop), g ≤ j.Groups.length ∧ m = j.Groups.length - g ∧
      Kn 32 a [(0, .func (.yield l) #[] #[]), (1, .pointer (some ⟨bj, 0, none⟩)), (2, .pointer (some ⟨bs, 0, none⟩)), (11, .int .i64 (j.Groups.length : Int)), (12, .int .i64 g)] ∧
      Pz ++ slotsF s j (j.Groups.drop g) g = L ∧ J Pz.length X W ∧ w.heap.size ≤ W.heap.size ∧ ∀ b o, S b o → W.cell? ⟨b, o, none⟩ = w.cell? ⟨b, o, none⟩) (j.Groups.length - 0)
      ⟨0, [], X0, Nat.zero_le _, rfl, k7, by rw [hL]; rfl, h0, Nat.le_refl _, fun _ _ _ => rfl⟩ ?_)
    clear k7 h0
    rintro m a W ⟨g, Pz, X, hgle, rfl, k0, hPz, hJW, hsz, hkeep⟩
    unfold out29
    refine wp_seq (wp_region ?_)
    rw [o2_n]
    show wpOps _ _ _ [0] _ _
    obtain ⟨_, _, _, h⟩ := o2_0
    refine wpOps_val h (exec_lss (k0.ev rfl) (k0.ev rfl)) ?_
    have k1 := k0.put 13 (.bool (decide ((g : Int) < (j.Groups.length : Int)))) (by decide)
    show (Code.seq _ _).wp _ _ _ _
    rcases hx : j.Groups[g]? with _ | x
    · have hge := ge_none hx
      have hlt : decide ((g : Int) < (j.Groups.length : Int)) = false := by simp; omega
      rw [hlt] at k1 ⊢
      refine wp_seq (wp_cond_false (k1.ev rfl) (wp_exit ?_))
      rw [drop_none hx, slotsF, List.append_nil] at hPz
      exact (fin k1 (.inl ⟨X, by rw [← hPz]; simpa using hJW⟩)).1
    obtain ⟨hlt, hgex⟩ := List.getElem?_eq_some_iff.1 hx
    have hltb : decide ((g : Int) < (j.Groups.length : Int)) = true := by simp; omega
    rw [hltb] at k1 ⊢
    refine wp_seq (wp_cond_true (k1.ev rfl) (wp_skip ?_))
    show (Code.seq _ _).wp _ _ _ _
    have hmx : maxLen ≤ 9223372036854775807 := by decide
    have hgl := hj.Groups.1.1
    have hgin : in64 (g : Int) := in64_iff.2 ⟨by omega, by omega⟩
    have hw1 := next64 hj.Groups.1.1 hlt
    rw [drop_some hx, slotsF] at hPz
    have hphi30 : phi 30 [s.enc, j.enc, .int .i64 g] = ints (idxL s j x) := by
      show D.list ((idxL (AStore.dec s.enc) (AJob.dec j.enc) ((AJob.dec j.enc).Groups.getD g ⟨0, 0, 0⟩)).map (D.int .i64)) = _
      rw [AStore.dec_enc, AJob.dec_enc]; simp [hx]; rfl
    have hpre30 : pre 30 [s.enc, j.enc, .int .i64 g] := by
      show 0 ≤ (g : Int) ∧ (g : Int).toNat < (AJob.dec j.enc).Groups.length
      rw [AJob.dec_enc]; exact ⟨by omega, by omega⟩
    have hidx := idxL_in64 hs j x
    generalize hix : idxL s j x = idx at hPz hphi30 hidx
    refine wp_seq (wp_block (wp_seq (wp_region ?_)))
    rw [o3_n]
    show wpOps _ _ _ [0, 1] _ _
    obtain ⟨_, _, _, h⟩ := o3_0
    refine wpOps_val h (exec_moveV (k1.ev rfl)) ?_
    have k2 := k1.put 14 (.int .i64 g) (by decide)
    obtain ⟨_, _, _, h⟩ := o3_1
    refine wpOps_val h (exec_assignV (k2.ev rfl)) ?_
    have k3 := k2.put 4 (.int .i64 g) (by decide)
    show (Code.seq _ _).wp _ _ _ _
    refine wp_seq (wp_region ?_)
    rw [o4_n]
    show wpOps _ _ _ [0, 1, 2, 3, 4, 5] _ _
    have hcs' : ∀ (i : Nat) v, cs[i]? = some v → W.cell? ⟨bs, 0 + i, none⟩ = some v := fun i v hi => by
      rw [Nat.zero_add, hkeep bs i (hSs i (hcsl ▸ (List.getElem?_eq_some_iff.1 hi).1))]; exact hcs i v hi
    have hcj' : ∀ (i : Nat) v, cj[i]? = some v → W.cell? ⟨bj, 0 + i, none⟩ = some v := fun i v hi => by
      rw [Nat.zero_add, hkeep bj i (hSj i (hcjl ▸ (List.getElem?_eq_some_iff.1 hi).1))]; exact hcj i v hi
    obtain ⟨_, _, _, h⟩ := o4_0
    refine wpOps_val h (exec_loadN (n := 9) (by kernel_rfl) (by kernel_rfl) (k3.ev rfl) hcsl9 hcs') ?_
    have k4 := k3.put 15 (.agg cs.toArray) (by decide)
    obtain ⟨_, _, _, h⟩ := o4_1
    refine wpOps_val h (exec_loadN (n := 7) (by kernel_rfl) (by kernel_rfl) (k4.ev rfl) hcjl7 hcj') ?_
    have k5 := k4.put 16 (.agg cj.toArray) (by decide)
    obtain ⟨_, _, _, h⟩ := o4_2
    refine wpOps_val h (exec_moveV (k5.ev rfl)) ?_
    have k6 := k5.put 17 (.int .i64 g) (by decide)
    have hSltW : ∀ b o, S b o → b < W.heap.size := fun b o hb => Nat.lt_of_lt_of_le (hSlt b o hb) hsz
    have hreps : ∀ (i : Nat) v d, [Value.agg cs.toArray, .agg cj.toArray, .int .i64 g][i]? = some v → [s.enc, j.enc, D.int .i64 g][i]? = some d → Rep W S v d := by
      intro i v d hv hd
      match i, hv, hd with
      | 0, hv, hd =>
        simp at hv hd; subst hv hd
        exact .agg cs s.enc.toL hcsl (fun i v d h1 h2 => (hrs i v d h1 h2).keep (fun _ _ h => h) hkeep)
      | 1, hv, hd =>
        simp at hv hd; subst hv hd
        exact .agg cj j.enc.toL hcjl (fun i v d h1 h2 => (hrj i v d h1 h2).keep (fun _ _ h => h) hkeep)
      | 2, hv, hd => simp at hv hd; subst hv hd; exact .int _ _
      | i + 3, hv, hd => simp at hv
    obtain ⟨_, _, _, h⟩ := o4_3
    refine wpOps_call h (exec_call c30.enter (map3 (k6.ev rfl) (k6.ev rfl) (k6.ev rfl))) (c30.calls rfl W S _ [s.enc, j.enc, .int .i64 g] hSltW rfl hreps ⟨_, _, rfl, ⟨_, rfl, gs⟩, _, _, rfl, ⟨_, rfl, gj⟩, _, _, rfl, ⟨_, rfl, hgin⟩, rfl⟩ hpre30) ?_
    rintro e W1 ⟨v, S1, τ, rfl, hb1, hSS1, hS1lt, hS1new, hres1, -, -, -⟩
    refine ⟨v, rfl, ?_⟩
    have hrv : Rep W1 S1 v (.list (idx.map (D.int .i64))) := by
      rcases hres1 with ⟨c, hc, hok⟩ | ⟨hne, _⟩
      · have hc' : c = (false, [(.list (.int .i64), none)]) := by
          have hc2 : [((false, [(Ty.list (.int .i64), none)]) : Bool × List RCell)] = [c] := hc
          injection hc2 with hc2 _; exact hc2.symm
        subst hc'
        unfold CompOk at hok
        simp only [Bool.false_eq_true, if_false] at hok
        obtain ⟨y, hy, hcell⟩ := hok
        injection hy with hy _
        subst hy
        rw [hphi30] at hcell
        exact hcell.1
      · exact absurd rfl hne
    obtain ⟨Ao, capo, rfl⟩ := hrv.inv_list
    have hlo : (idx.map (D.int .i64)).length = idx.length := by simp
    have k7 := k6.put 18 (.slice Ao (idx.map (D.int .i64)).length capo) (by decide)
    obtain ⟨_, _, _, h⟩ := o4_4
    refine wpOps_val h (exec_len (el := 3) (by kernel_rfl) (k7.ev rfl)) ?_
    have k8 := k7.put 19 (.int .i64 ((idx.map (D.int .i64)).length : Int)) (by decide)
    obtain ⟨_, _, _, h⟩ := o4_5
    refine wpOps_val h exec_move ?_
    have k9 := k8.put 20 (.int .i64 0) (by decide)
    show (Code.block 2 (.loop in29)).wp _ _ (Act.put _ _ (.int .i64 0)) _
    have k10 := k9.sub (l := [(0, .func (.yield l) #[] #[]), (1, .pointer (some ⟨bj, 0, none⟩)), (2, .pointer (some ⟨bs, 0, none⟩)), (11, .int .i64 (j.Groups.length : Int)), (12, .int .i64 g), (4, .int .i64 g),
      (18, .slice Ao (idx.map (D.int .i64)).length capo), (19, .int .i64 ((idx.map (D.int .i64)).length : Int)), (20, .int .i64 0)]) ⟨rfl, rfl, rfl, rfl, rfl, rfl, rfl, rfl, rfl, trivial⟩
    clear k1 k2 k3 k4 k5 k6 k7 k8 k9 h
    generalize Act.put _ _ (.int .i64 0) = a2 at k10 ⊢
    have hcell1 : ∀ b o, S b o → W1.cell? ⟨b, o, none⟩ = w.cell? ⟨b, o, none⟩ := fun b o hb => (World.cell?_of_block (hb1.block b (hSltW b o hb))).trans (hkeep b o hb)
    refine wp_block (wp_loop_ghost (fun m a W' => ∃ (k : Nat) (X : Nat → Prop), k ≤ idx.length ∧ m = idx.length - k ∧
      Kn 32 a [(0, .func (.yield l) #[] #[]), (1, .pointer (some ⟨bj, 0, none⟩)), (2, .pointer (some ⟨bs, 0, none⟩)), (11, .int .i64 (j.Groups.length : Int)), (12, .int .i64 g), (4, .int .i64 g),
        (18, .slice Ao (idx.map (D.int .i64)).length capo), (19, .int .i64 ((idx.map (D.int .i64)).length : Int)), (20, .int .i64 k)] ∧
      J (Pz.length + k) X W' ∧ W1.heap.size ≤ W'.heap.size ∧ (∀ b o, S b o → W'.cell? ⟨b, o, none⟩ = w.cell? ⟨b, o, none⟩) ∧ (∀ b, X b → b < W.heap.size ∨ W1.heap.size ≤ b) ∧
      ∀ b o, S1 b o → W'.cell? ⟨b, o, none⟩ = W1.cell? ⟨b, o, none⟩) (idx.length - 0)
      ⟨0, X, Nat.zero_le _, rfl, k10, hJ _ _ _ _ hJW hb1, Nat.le_refl _, hcell1, fun b hb => .inl (hXlt _ _ _ hJW b hb), fun _ _ _ => rfl⟩ ?_)
    clear k10
    rintro m a3 W2 ⟨k, X2, hkle, rfl, q0, hJ2, hsz2, hkeep2, hX2, hkS1⟩
    unfold in29
    refine wp_seq (wp_region ?_)
    rw [o5_n]
    show wpOps _ _ _ [0] _ _
    obtain ⟨_, _, _, h⟩ := o5_0
    refine wpOps_val h (exec_lss (q0.ev rfl) (q0.ev rfl)) ?_
    have q1 := q0.put 21 (.bool (decide ((k : Int) < ((idx.map (D.int .i64)).length : Int)))) (by decide)
    show (Code.seq _ _).wp _ _ _ _
    rcases hk : idx[k]? with _ | n
    · have hge := ge_none hk
      have hltk : decide ((k : Int) < ((idx.map (D.int .i64)).length : Int)) = false := by simp; omega
      rw [hltk] at q1 ⊢
      refine wp_seq (wp_cond_false (q1.ev rfl) (wp_exit ?_))
      obtain rfl : k = idx.length := by omega
      show (Code.region 9 o9 false).wp _ _ _ _
      refine wp_region ?_
      rw [o9_n]
      show wpOps _ _ _ [0, 1] _ _
      obtain ⟨_, _, _, h⟩ := o9_0
      refine wpOps_val h (exec_add (k := .i64) (m := g) (n := 1) (q1.ev rfl) rfl) ?_
      rw [hw1]
      have q2 := q1.put 31 (.int .i64 ((g : Int) + 1)) (by decide)
      obtain ⟨_, _, _, h⟩ := o9_1
      refine wpOps_val h (exec_moveV (q2.ev rfl)) ?_
      have q3 := q2.put 12 (.int .i64 ((g : Int) + 1)) (by decide)
      refine ⟨j.Groups.length - (g + 1), by omega, g + 1, Pz ++ idx.map (fun i => ((g : Int), i)), X2, hlt, rfl, q3.sub ⟨rfl, rfl, rfl, rfl, rfl, trivial⟩, ?_, ?_, ?_, hkeep2⟩
      · rw [List.append_assoc]; exact hPz
      · simpa using hJ2
      · exact Nat.le_trans hsz (Nat.le_trans hb1.size hsz2)
    obtain ⟨hltk, hkx⟩ := List.getElem?_eq_some_iff.1 hk
    have hltkb : decide ((k : Int) < ((idx.map (D.int .i64)).length : Int)) = true := by simp; omega
    rw [hltkb] at q1 ⊢
    refine wp_seq (wp_cond_true (q1.ev rfl) (wp_skip ?_))
    show (Code.seq _ _).wp _ _ _ _
    have hnin := hidx n (mem_some hk)
    obtain ⟨bo, offo, capo', u, hvo, hu⟩ := hrv.inv_elem (i := k) (d := .int .i64 n) (by simp [hk])
    obtain ⟨hu1, hu2, hu3⟩ := hu 0 (.int .i64 n) rfl
    have hu0 := hu3.inv_int
    rw [hu0] at hu2
    refine wp_seq (wp_block (wp_seq (wp_region ?_)))
    rw [o6_n]
    show wpOps _ _ _ [0, 1, 2] _ _
    obtain ⟨_, _, _, h⟩ := o6_0
    refine wpOps_val h (exec_indexAddrO (el := 3) (sz := 1) (b := bo) (off := offo) (n := (idx.map (D.int .i64)).length) (cap := capo') (k := .i64) (m := k) (by kernel_rfl) (by kernel_rfl) ((q1.ev rfl).trans hvo) (q1.ev rfl) (by omega) (by rw [hlo]; omega)) ?_
    have q2 := q1.put 22 (.pointer (some ⟨bo, offo + (k : Int).toNat * 1, none⟩)) (by decide)
    obtain ⟨_, _, _, h⟩ := o6_1
    refine wpOps_val h (exec_load1 (v := .int .i64 n) (by kernel_rfl) (by kernel_rfl) (q2.ev rfl) ((hkS1 bo _ hu1).trans hu2)) ?_
    have q3 := q2.put 23 (.int .i64 n) (by decide)
    obtain ⟨_, _, _, h⟩ := o6_2
    refine wpOps_val h (exec_assignV (q3.ev rfl)) ?_
    have q4 := q3.put 6 (.int .i64 n) (by decide)
    show (Code.seq _ _).wp _ _ _ _
    refine wp_seq ((wpIn_wide (n := 1)).1 (wpIn_region ?_))
    rw [o7_n]
    show wpOpsIn _ _ _ _ _ [0, 1, 2, 3, 4, 5] _ _
    obtain ⟨_, _, _, h⟩ := o7_0
    refine opsW_val h rfl (exec_moveV (q4.ev rfl)) ?_
    have q5 := q4.put 24 (.func (.yield l) #[] #[]) (by decide)
    obtain ⟨_, _, _, h⟩ := o7_1
    refine opsW_val h rfl (exec_moveV (q5.ev rfl)) ?_
    have q6 := q5.put 25 (.int .i64 g) (by decide)
    obtain ⟨_, _, _, h⟩ := o7_2
    refine opsW_val h rfl (exec_moveV (q6.ev rfl)) ?_
    have q7 := q6.put 26 (.int .i64 n) (by decide)
    obtain ⟨_, _, _, h⟩ := o7_3
    refine opsW_val h rfl (exec_build (ps := [(0, .int .i64 g), (1, .int .i64 n)]) (by simp only [List.map_toArray, List.map_cons, List.map_nil]; rw [q7.ev (t := 25) rfl, q7.ev (t := 26) rfl]) (built36 g n)) ?_
    have q8 := q7.put 27 (.agg [Value.int .i64 g, .int .i64 n].toArray) (by decide)
    have hget : (L.map slotE)[Pz.length + k]? = some (slotE (g, n)) := by
      rw [← hPz]
      simp [List.getElem?_append, hltk, hkx]
    obtain ⟨fy, ty, ay, by_, hrun, hround⟩ := hY _ _ (.agg [Value.int .i64 g, .int .i64 n].toArray) X2 W2 hJ2 hget (fun _ _ => rep_slot _ _ _ _) (has_slot hgin hnin)
    obtain ⟨_, _, _, h⟩ := o7_4
    refine opsW_yield h rfl (exec_yield (q8.2.2 24 _ rfl) (q8.2.2 27 _ rfl) hrun) hround ?_
    rintro e W3 (⟨rfl, ⟨X3, hJ3, hX3⟩, hbx, hcl3⟩ | ⟨rfl, hJx3⟩)
    · refine ⟨_, rfl, ?_⟩
      have q9 := q8.put 28 (.bool true) (by decide)
      obtain ⟨_, _, _, h⟩ := o7_5
      refine opsW_val h rfl (exec_not (q9.ev rfl)) ?_
      have q10 := q9.put 29 (.bool false) (by decide)
      show (Code.cond (.tmp 29) .ret .skip).wp _ _ _ _
      refine wp_cond_false (q10.ev rfl) (wp_skip ?_)
      show (Code.region 8 o8 false).wp _ _ _ _
      refine wp_region ?_
      rw [o8_n]
      show wpOps _ _ _ [0, 1] _ _
      obtain ⟨_, _, _, h⟩ := o8_0
      refine wpOps_val h (exec_add (k := .i64) (m := k) (n := 1) (q10.ev rfl) rfl) ?_
      have hwk : IntKind.i64.wrap ((k : Int) + 1) = (k : Int) + 1 := by
        have hil : idx.length ≤ maxLen := by rw [← hix]; exact idxL_len hs j x
        exact next64 hil hltk
      rw [hwk]
      have q11 := q10.put 30 (.int .i64 ((k : Int) + 1)) (by decide)
      obtain ⟨_, _, _, h⟩ := o8_1
      refine wpOps_val h (exec_moveV (q11.ev rfl)) ?_
      have q12 := q11.put 20 (.int .i64 ((k : Int) + 1)) (by decide)
      refine ⟨idx.length - (k + 1), by omega, k + 1, X3, hltk, rfl, q12.sub ⟨rfl, rfl, rfl, rfl, rfl, rfl, rfl, rfl, rfl, trivial⟩, hJ3, Nat.le_trans hsz2 hbx.size, fun b o hb => (hcl3 b o hb).trans (hkeep2 b o hb), ?_, ?_⟩
      · intro b hb
        rcases hX3 b hb with h | h
        · exact hX2 b h
        · exact .inr (Nat.le_trans hsz2 h)
      · intro b o hb
        rcases hS1new b o hb with hs' | hs'
        · exact (hcl3 b o hs').trans (hkS1 b o hb)
        · have hlt1 := hS1lt b o hb
          refine (World.cell?_of_block (hbx.block b (Nat.lt_of_lt_of_le hlt1 hsz2) (fun hXb => ?_))).trans (hkS1 b o hb)
          rcases hX2 b hXb with h | h <;> omega
    · refine ⟨_, rfl, ?_⟩
      have q9 := q8.put 28 (.bool false) (by decide)
      obtain ⟨_, _, _, h⟩ := o7_5
      refine opsW_val h rfl (exec_not (q9.ev rfl)) ?_
      have q10 := q9.put 29 (.bool true) (by decide)
      show (Code.cond (.tmp 29) .ret .skip).wp _ _ _ _
      refine wp_cond_true (q10.ev rfl) (wp_ret ?_)
      exact (fin q10 (.inr hJx3)).2
end Go.Proofs.Ytippnelhkdjknaa
