/-
  What each function of this seat computes, and that it keeps to it (T).
-/
import Derived.Test.YtippnelhkdjknaaCS
set_option linter.unusedSimpArgs false
set_option linter.unusedVariables false
namespace Go.Proofs.Ytippnelhkdjknaa
open Go Go.Eng Go.Proofs


theorem findF_eq {α : Type} {p : α → Bool} {l : List α} {n : Nat} {x : α} (hx : l[n]? = some x) (hp : p x = true) (hb : ∀ (m : Nat) z, m < n → l[m]? = some z → p z = false) : findF p l 0 = n := by
  rcases findF_cases p l 0 with ⟨_, h2⟩ | ⟨k, y, h1, h2, h3, h4⟩
  · rw [h2 x (mem_some hx)] at hp; cases hp
  · rw [h1]
    by_cases hkn : k < n
    · rw [hb k y hkn h2] at h3; cases h3
    · by_cases hnk : n < k
      · have := h4 x (List.mem_of_getElem? (i := n) (by rw [List.getElem?_take, if_pos hnk]; exact hx))
        rw [this] at hp; cases hp
      · have : k = n := by omega
        omega
def drainN (b : ANode) : ANode := { b with Drain := true }
def drainS (s : AStore) (n : Nat) (b : ANode) : AStore := { s with Nodes := s.Nodes.set n (drainN b) }
theorem drain_fold (s : AStore) (n : Nat) (b : ANode) (hn : n < s.Nodes.length) : D.agg [.int .i64 s.Index, .int .i64 s.Next, encL AJob.enc s.Jobs, encL AJob.enc s.Stable, D.list (List.take n (s.Nodes.map ANode.enc) ++ D.agg [.int .i64 b.ID, .int .i64 b.CPU, .int .i64 b.Mem, .bool b.Up, .bool true, .int .i64 b.Boot, .int .i64 b.Epoch, .int .i64 b.Seq] :: List.drop (n + 1) (s.Nodes.map ANode.enc)),
    encL AAlc.enc s.Allocs, encL AEvl.enc s.Evals, encL AEvl.enc s.Deploys, encL ASeen.enc s.Seen] = (drainS s n b).enc := by
  have h := setL_enc ANode.enc s.Nodes n (drainN b) hn
  show D.agg [_, _, _, _, D.list (List.take n (s.Nodes.map ANode.enc) ++ (drainN b).enc :: List.drop (n + 1) (s.Nodes.map ANode.enc)), _, _, _, _] = _
  rw [h]; rfl
theorem drainB_set {s : AStore} {n : Nat} {b : ANode} {node : Int} (h : nodeI s node = n) (hb : s.Nodes[n]? = some b) (hid : b.ID = node) : drainB (drainS s n b) node = true := by
  have hlt : n < s.Nodes.length := lt_some hb
  have hget : (s.Nodes.set n (drainN b))[n]? = some (drainN b) := by simp [hlt]
  have h1 : nodeI (drainS s n b) node = n := by
    refine findF_eq (x := drainN b) hget (by simp [drainN, hid]) ?_
    intro m z hm hz
    have hz' : (s.Nodes.set n (drainN b))[m]? = some z := hz
    rw [List.getElem?_set_ne (by omega)] at hz'
    exact find0_before h m z hm hz'
  unfold drainB ndI
  rw [h1]
  have : (drainS s n b).Nodes = s.Nodes.set n (drainN b) := rfl
  simp [this, hlt, drainN]
theorem c7 : PureFn Try.prog 7 s7 (pre 7) (phi 7) := by
  refine pureFn_auto (given := [(6, {drop := [3000008]})]) mix con6 Try.func7 (by kernel_rfl) (v := vc7) (by kernel_rfl) ?_
  intro ds h hp
  obtain ⟨_, _, rfl, gs, _, _, rfl, ⟨job, rfl, _⟩, _, _, rfl, ⟨node, rfl, _⟩, rfl⟩ := h
  obtain ⟨s, rfl, hs⟩ := AStore.cases gs
  have hw : s.enc.wt ≤ 1048576 := by
    have h : wtL [s.enc, .int .i64 job, .int .i64 node] ≤ 1048576 := hp
    simp only [wtL] at h; omega
  have hR : ∀ l, phi 7 l = .bool true := fun _ => rfl
  simp only [vc7, vh_obl, vh_call, vh_room, vh_branch, vh_loop, vh_again, vh_ret, vh_any, vh_hav, vh_range, implies_true, true_and]
  rcases find0 (fun x : ANode => x.ID == node) s.Nodes with ⟨h1, h2⟩ | ⟨nj, b, h1, hx, h2⟩
  · have h1' : nodeI s node = -1 := h1
    simp [-List.any_eq_true, -List.any_eq_false, updV, den, U.den, B.den, upd, condB, toL_list, toL_agg, toL_tup, toL_ptr, toL_fn, toI_int, toB_bool, AStore.toL, AStore.fold, ANode.toL, AAlc.toL, AJob.toL, AGrp.toL, AEvl.toL, ARes.toL, ARes.eta, encL_toL, hRefNode, h1', hR, hLives, hPre2]
  have h1' : nodeI s node = nj := h1
  have hid : b.ID = node := by simpa using List.find?_some h2
  obtain ⟨hlt, hge⟩ := List.getElem?_eq_some_iff.1 hx
  have hn0 : ¬ ((nj : Int) < 0) := by omega
  obtain ⟨w1, w2, w3, w4⟩ := wt_store hw
  have hrt : roomD (drainS s nj b) := by
    refine room_of (N := 1048576) (by omega) (by show s.Allocs.length ≤ _; omega) (by show (s.Nodes.set nj (drainN b)).length ≤ _; rw [List.length_set]; omega) (fun y hy => w4 y hy)
  have hdb := drainB_set h1' hx hid
  have hjt : jobI (drainS s nj b) job = jobI s job := rfl
  have hall : 0 ≤ jobI s job → ∀ a ∈ s.Allocs, a.Job = job → a.Node = node → a.State < 3 → a.Stop = false → a.ID ∈ (diffL (drainS s nj b) job).1 := fun hj a ha g1 g2 g3 g4 => diffL_drain (s := drainS s nj b) (by rw [hjt]; exact hj) hdb ha g1 g2 g3 g4
  have hnone : jobI s job < 0 → (diffL (drainS s nj b) job).1 = [] := fun hj => by rw [diffL_none (s := drainS s nj b) (by rw [hjt]; exact hj)]
  have hdlen := (diffL_len hrt job).1
  simp [-List.any_eq_true, -List.any_eq_false, updV, den, U.den, B.den, upd, condB, toL_list, toL_agg, toL_tup, toL_ptr, toL_fn, toI_int, toB_bool, AStore.toL, AStore.fold, ANode.toL, AAlc.toL, AJob.toL, AGrp.toL, AEvl.toL, ARes.toL, ARes.eta, encL_toL, hRefNode, h1', hn0, hCopy, hlt, hge, hR, hPre2, drain_fold s nj b hlt, hDiff, hDiffPre, hrt.j, hLives, hRefJob, hjt]
  generalize (diffL (drainS s nj b) job).1 = st at hall hnone hdlen
  refine ⟨fun hj => ?_, fun hj => ?_⟩
  · rw [hnone hj]; rfl
  refine LoopOk.intro (fun xs => ∃ n : Nat, xs = [.bool false, .int .i64 n] ∧ n ≤ s.Allocs.length) (FM s.Allocs 1) ⟨0, by simp, Nat.zero_le _⟩ ?_
  rintro xs hxs ⟨n, rfl, hle⟩
  rcases hz : s.Allocs[n]? with _ | a
  · have hge3 := ge_none hz
    have hn3 : ¬ ((n : Int) < s.Allocs.length) := by omega
    simp [-List.any_eq_true, -List.any_eq_false, updV, den, U.den, B.den, upd, condB, toL_list, toL_agg, toL_tup, toL_ptr, toL_fn, toI_int, toB_bool, AStore.toL, AStore.fold, ANode.toL, AAlc.toL, AJob.toL, AGrp.toL, AEvl.toL, ARes.toL, ARes.eta, encL_toL, hn3, hge3]
  · obtain ⟨hlt3, hge3⟩ := List.getElem?_eq_some_iff.1 hz
    have hw3 := next64 hs.Allocs.1.1 hlt3
    have hm : s.Allocs.length - (((n + 1 : Nat) : Int)).toNat < s.Allocs.length - ((n : Nat) : Int).toNat := by omega
    simp [-List.any_eq_true, -List.any_eq_false, updV, den, U.den, B.den, upd, condB, toL_list, toL_agg, toL_tup, toL_ptr, toL_fn, toI_int, toB_bool, AStore.toL, AStore.fold, ANode.toL, AAlc.toL, AJob.toL, AGrp.toL, AEvl.toL, ARes.toL, ARes.eta, encL_toL, AAlc.toL, hlt3, hge3, hw3, Nat.not_le.2 hlt3]
    refine ⟨fun _ => ⟨⟨n + 1, by simp, hlt3⟩, hm⟩, fun g1 g2 g3 g4 => ?_⟩
    have hmem := hall (by omega) a (mem_some hz) g1 g2 g3 g4
    refine LoopOk.intro (fun xs => ∃ k : Nat, xs = [.bool ((st.take k).any (fun x => x == a.ID)), .int .i64 k] ∧ k ≤ st.length) (fun xs => st.length - (I (.list xs) 1).toNat) ⟨0, by simp, Nat.zero_le _⟩ ?_
    rintro xs hxs ⟨k, rfl, hk⟩
    rcases hq : st[k]? with _ | x
    · have hge4 := ge_none hq
      have hn4 : ¬ ((k : Int) < st.length) := by omega
      have hany : st.any (fun x => x == a.ID) = true := List.any_eq_true.2 ⟨_, hmem, by simp⟩
      rw [List.take_of_length_le hge4, hany]
      simp [-List.any_eq_true, -List.any_eq_false, updV, den, U.den, B.den, upd, condB, toL_list, toL_agg, toL_tup, toL_ptr, toL_fn, toI_int, toB_bool, AStore.toL, AStore.fold, ANode.toL, AAlc.toL, AJob.toL, AGrp.toL, AEvl.toL, ARes.toL, ARes.eta, encL_toL, ints_len, hn4, hge4]
      exact ⟨⟨n + 1, by simp, hlt3⟩, hm⟩
    · obtain ⟨hlt4, hge4⟩ := List.getElem?_eq_some_iff.1 hq
      have hw4 : IntKind.i64.wrap ((k : Int) + 1) = (k : Int) + 1 := wrap64 (by omega) (by omega)
      simp [-List.any_eq_true, -List.any_eq_false, updV, den, U.den, B.den, upd, condB, toL_list, toL_agg, toL_tup, toL_ptr, toL_fn, toI_int, toB_bool, AStore.toL, AStore.fold, ANode.toL, AAlc.toL, AJob.toL, AGrp.toL, AEvl.toL, ARes.toL, ARes.eta, encL_toL, ints_len, ints_toL, hlt4, hge4, hw4, Nat.not_le.2 hlt4, AAlc.toL, hlt3, hge3]
      refine ⟨⟨k + 1, ⟨?_, by simp⟩, hlt4⟩, by show st.length - ((k : Int) + 1).toNat < st.length - (k : Int).toNat; omega⟩
      rw [any_take hq]
theorem con7 : Con Try.prog pre phi tb7 := con_cons c7 con6

end Go.Proofs.Ytippnelhkdjknaa
