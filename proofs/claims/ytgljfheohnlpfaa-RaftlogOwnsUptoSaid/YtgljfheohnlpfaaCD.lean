/-
  What each function of this seat computes, and that it keeps to it (D).
-/
import Derived.Test.YtgljfheohnlpfaaCC
set_option linter.unusedSimpArgs false
set_option linter.unusedVariables false
namespace Go.Proofs.Ytgljfheohnlpfaa
open Go Go.Eng Go.Proofs

theorem c11 : PureFn Try.prog 11 s11 (pre 11) (phi 11) := by
  refine pureFn_auto (given := []) mix con29 Try.func11 (by kernel_rfl) (v := vc11) (by kernel_rfl) ?_
  intro ds h hp
  obtain ⟨_, _, rfl, ⟨c, rfl, hc⟩, _, _, rfl, ⟨n, rfl, hn⟩, rfl⟩ := h
  replace hp : 0 < n := hp
  rw [inK64] at hc
  have hR : phi 11 [.int .i64 c, .int .i64 n] = .int .i64 (pickF c n) := rfl
  simp [vc11, vh_obl, vh_call, vh_room, vh_branch, vh_loop, vh_again, vh_ret, updV, den, U.den, B.den, upd, condB, toL_list, toL_agg, toL_tup, toL_ptr, toL_fn, toI_int, toB_bool, pre, hR]
  refine ⟨fun h => ⟨by omega, ?_⟩, fun h => ⟨by omega, ?_⟩⟩
  · rw [wrap64 (n := c + 1) (by omega) (by omega), wrap64 (by omega) (by omega)]
    unfold pickF; rw [if_pos h]
  · unfold pickF; rw [if_neg (by omega)]
theorem con11 : Con Try.prog pre phi tb11 := con_cons c11 con29

theorem c25 : PureFn Try.prog 25 s25 (pre 25) (phi 25) := by
  refine pureFn_auto (given := []) mix con11 Try.func25 (by kernel_rfl) (v := vc25) (by kernel_rfl) ?_
  intro ds h hp
  obtain ⟨a, _, rfl, ha, b, _, rfl, hb, rfl⟩ := h
  have h2 : ∀ x : D, Has entT x → x.toL[2]?.getD .top = .int .i64 (I x 2) ∧ x.toL[5]?.getD .top = .int .i64 (I x 5) := by
    rintro x ⟨_, rfl, _, _, rfl, _, _, _, rfl, _, _, _, rfl, ⟨u, rfl, _⟩, _, _, rfl, _, _, _, rfl, _, _, _, rfl, ⟨v, rfl, _⟩, _⟩
    exact ⟨rfl, rfl⟩
  obtain ⟨a0, a1, _, _⟩ := ent_at ha
  obtain ⟨b0, b1, _, _⟩ := ent_at hb
  obtain ⟨a2, a5⟩ := h2 a ha
  obtain ⟨b2, b5⟩ := h2 b hb
  have hR : phi 25 [a, b] = .bool (sameE a b) := rfl
  simp [vc25, vh_obl, vh_call, vh_room, vh_branch, vh_loop, vh_again, vh_ret, updV, den, U.den, B.den, upd, condB, toL_list, toL_agg, toL_tup, toL_ptr, toL_fn, toI_int, toB_bool, pre, hR, a0, a1, a2, a5, b0, b1, b2, b5, sameE]
theorem con25 : Con Try.prog pre phi tb25 := con_cons c25 con11

theorem c16 : PureFn Try.prog 16 s16 (pre 16) (phi 16) := by
  refine pureFn_auto (given := []) mix con25 Try.func16 (by kernel_rfl) (v := vc16) (by kernel_rfl) ?_
  intro ds h hp
  obtain ⟨_, _, rfl, ⟨a, rfl, ha, haL⟩, _, _, rfl, ⟨b, rfl, hb, hbL⟩, rfl⟩ := h
  have hR : phi 16 [.list a, .list b] = .bool (sameL a b) := rfl
  have hE : ∀ x y, phi 25 [x, y] = .bool (sameE x y) := fun _ _ => rfl
  have hl1 := ha.1
  simp only [maxLen] at hl1
  simp [vc16, vh_obl, vh_call, vh_room, vh_branch, vh_loop, vh_again, vh_ret, updV, den, U.den, B.den, upd, condB, toL_list, toL_agg, toL_tup, toL_ptr, toL_fn, toI_int, toB_bool, pre, hR, hE]
  refine ⟨fun h => ?_, fun h => ?_⟩
  · rw [Bool.eq_false_iff]; intro hk; exact h (by rw [sameL_len hk])
  refine LoopOk.intro (fun xs => ∃ n : Nat, xs = [.bool false, .int .i64 n] ∧ n ≤ a.length ∧ sameL (a.drop n) (b.drop n) = sameL a b) (FM a 1) ⟨0, by simp, Nat.zero_le _, by simp⟩ ?_
  intro xs hxs hJ
  obtain ⟨n, rfl, hle, hf⟩ := hJ
  clear hxs
  rcases hx : a[n]? with _ | x
  · have hge := ge_none hx
    have hlt : ¬ ((n : Int) < a.length) := by omega
    rw [List.drop_of_length_le hge, List.drop_of_length_le (by omega)] at hf
    simp [toI_int, hlt, ← hf, sameL]
  · have hlt := lt_some hx
    have hlt' : (n : Int) < a.length := by omega
    have hltb : (n : Int) < b.length := by omega
    obtain ⟨y, hy⟩ : ∃ y, b[n]? = some y := ⟨_, List.getElem?_eq_getElem (by omega)⟩
    have hw1 : IntKind.wrap .i64 ((n : Int) + 1) = (n : Int) + 1 := wrap64 (by omega) (by omega)
    rw [drop_some hx, drop_some hy] at hf
    have hD := hf
    simp only [sameL] at hf
    have hEx : phi 25 [x, y] = .bool (sameE x y) := rfl
    have hea := ent_eta (haL x (List.mem_of_getElem? hx))
    have heb := ent_eta (hbL y (List.mem_of_getElem? hy))
    simp [toI_int, toL_list, toB_bool, hx, hy, hlt', hltb, hw1, hE, hea, heb]
    refine ⟨⟨fun hq => ?_, fun hq => ⟨⟨n + 1, rfl, hlt, ?_⟩, ?_⟩⟩, fun hq => by omega⟩
    · rw [← hf, hq]; rfl
    · rw [← hf, hq]; rfl
    · show a.length - ((n : Int) + 1).toNat < a.length - (n : Int).toNat
      omega
theorem con16 : Con Try.prog pre phi tb16 := con_cons c16 con25

theorem c19 : PureFn Try.prog 19 s19 (pre 19) (phi 19) := by
  refine objFn_auto (given := []) mix con16 Try.func19 rfl (by kernel_rfl) (v := vc19) (by kernel_rfl) ?_
  intro ds h hp
  obtain ⟨x, _, rfl, hx, _, _, rfl, ⟨i, rfl, hi⟩, _, _, rfl, ⟨t, rfl, ht⟩, _, _, rfl, ⟨l, rfl, hlen, hL⟩, _, _, rfl, ⟨i', rfl, hi'⟩, _, _, rfl, ⟨t', rfl, ht'⟩, _, _, rfl, ⟨l', rfl, hlen', hL'⟩, rfl⟩ := h
  obtain ⟨hp, e1, e2, e3, hs1, hs2⟩ := hp
  replace hp : mayB i t l = true := hp
  obtain rfl : i' = i := e1
  obtain rfl : t' = t := e2
  obtain rfl : l' = l := e3
  replace hs1 : l'.length < 4294967296 := hs1
  replace hs2 : (D.toL (x.toL.getD 4 .top)).length < 4294967296 := hs2
  obtain ⟨_, rfl, _, _, rfl, ⟨k, rfl, hk⟩, _, _, rfl, ⟨xi, rfl, hxi⟩, _, _, rfl, ⟨xt, rfl, hxt⟩, _, _, rfl, ⟨op, rfl, hop⟩, _, _, rfl, ⟨es, rfl, helen, heL⟩, rfl⟩ := hx
  replace hs2 : es.length < 4294967296 := hs2
  have hok : okB i' t' = true := by have := hp; rw [mayB, Bool.and_eq_true] at this; exact this.1
  have hpk : phi 11 [.int .i64 k, .int .i64 6] = .int .i64 (pickF k 6) := rfl
  have hP : ∀ m c, phi 10 [.int .i64 m, c, .int .i64 i', .int .i64 t', .list l'] = .tup [.tup [putX i' t' l' m c, .int .i64 (putC i' t' l' m)], stD i' t' (putL i' t' l' m c)] := fun _ _ => rfl
  have hPr : ∀ m c, phi 27 [.int .i64 m, c, .int .i64 i', .int .i64 t', .list l'] = .tup [.tup [putX i' t' l' m c, .int .i64 (putC i' t' l' m)], stD i' t' (putL i' t' l' m c)] := fun _ _ => rfl
  have hA : phi 14 [.int .i64 xi, .int .i64 xt, .list es, .int .i64 i', .int .i64 t', .list l'] = .tup [.tup [.int .i64 (accF i' t' l' xi xt es).1, .bool (accOk i' t' l' xi xt es)], stD i' t' (accF i' t' l' xi xt es).2] := rfl
  have hAr : phi 28 [.int .i64 xi, .int .i64 xt, .list es, .int .i64 i', .int .i64 t', .list l'] = .tup [.tup [.int .i64 (accF i' t' l' xi xt es).1, .bool (accOk i' t' l' xi xt es)], stD i' t' (accF i' t' l' xi xt es).2] := rfl
  have hC : phi 22 [.int .i64 xi, .int .i64 i', .int .i64 t', .list l'] = .tup [.int .i64 (compC i' l' xi), stD (compS i' t' l' xi).1 (compS i' t' l' xi).2.1 (compS i' t' l' xi).2.2] := rfl
  have hCr : phi 29 [.int .i64 xi, .int .i64 i', .int .i64 t', .list l'] = .tup [.int .i64 (compC i' l' xi), stD (compS i' t' l' xi).1 (compS i' t' l' xi).2.1 (compS i' t' l' xi).2.2] := rfl
  have hT : phi 13 [.int .i64 xi, .int .i64 i', .int .i64 t', .list l'] = .tup [.tup [.int .i64 (termF i' t' l' xi).1, .int .i64 (termF i' t' l' xi).2], stD i' t' l'] := rfl
  have hTr : phi 30 [.int .i64 xi, .int .i64 i', .int .i64 t', .list l'] = .tup [.tup [.int .i64 (termF i' t' l' xi).1, .int .i64 (termF i' t' l' xi).2], stD i' t' l'] := rfl
  have hS : phi 15 [.int .i64 xi, .int .i64 xt, .int .i64 i', .int .i64 t', .list l'] = .tup [.list (sliceF i' l' xi xt), stD i' t' l'] := rfl
  have hSr : phi 31 [.int .i64 xi, .int .i64 xt, .int .i64 i', .int .i64 t', .list l'] = .tup [.list (sliceF i' l' xi xt), stD i' t' l'] := rfl
  have hN : phi 26 [.int .i64 xi, .int .i64 xt, .int .i64 i', .int .i64 t', .list l'] = .tup [.bool (newerF i' t' l' xi xt), stD i' t' l'] := rfl
  have hNr : phi 32 [.int .i64 xi, .int .i64 xt, .int .i64 i', .int .i64 t', .list l'] = .tup [.bool (newerF i' t' l' xi xt), stD i' t' l'] := rfl
  have hE : ∀ a, phi 25 [a, a] = .bool true := fun a => by show D.bool (sameE a a) = _; rw [sameE_refl]
  have hEs : ∀ a, phi 16 [.list a, .list a] = .bool true := fun a => by show D.bool (sameL a a) = _; rw [sameL_refl]
  have hR : phi 19 [.agg [.int .i64 k, .int .i64 xi, .int .i64 xt, .int .i64 op, .list es], .int .i64 i', .int .i64 t', .list l', .int .i64 i', .int .i64 t', .list l'] =
    .tup [.bool true, stD (stepS i' t' l' (.agg [.int .i64 k, .int .i64 xi, .int .i64 xt, .int .i64 op, .list es])).1 (stepS i' t' l' (.agg [.int .i64 k, .int .i64 xi, .int .i64 xt, .int .i64 op, .list es])).2.1 (stepS i' t' l' (.agg [.int .i64 k, .int .i64 xi, .int .i64 xt, .int .i64 op, .list es])).2.2,
     stD (stepS i' t' l' (.agg [.int .i64 k, .int .i64 xi, .int .i64 xt, .int .i64 op, .list es])).1 (stepS i' t' l' (.agg [.int .i64 k, .int .i64 xi, .int .i64 xt, .int .i64 op, .list es])).2.1 (stepS i' t' l' (.agg [.int .i64 k, .int .i64 xi, .int .i64 xt, .int .i64 op, .list es])).2.2] := rfl
  have hSt : stepS i' t' l' (.agg [.int .i64 k, .int .i64 xi, .int .i64 xt, .int .i64 op, .list es]) =
    (if pickF k 6 = 0 then (i', t', putL i' t' l' xt (cmd0 (.int .i64 op))) else if pickF k 6 = 1 then (i', t', (accF i' t' l' xi xt es).2) else if pickF k 6 = 2 then compS i' t' l' xi else (i', t', l')) := rfl
  rw [hR, hSt]
  simp [vc19, vh_obl, vh_call, vh_room, vh_branch, vh_loop, vh_again, vh_ret, updV, den, U.den, B.den, upd, condB, toL_list, toL_agg, toL_tup, toL_ptr, toL_fn, toI_int, toB_bool, pre, hpk, hP, hPr, hA, hAr, hC, hCr, hT, hTr, hS, hSr, hN, hNr, hE, hEs, stD, hp, hok, hs1, hs2, cmd0]
  generalize pickF k 6 = g
  by_cases h0 : g = 0 <;> by_cases h1 : g = 1 <;> by_cases h2 : g = 2 <;> simp_all
theorem con19 : Con Try.prog pre phi tb19 := con_cons c19 con16

theorem c17 : PureFn Try.prog 17 s17 (pre 17) (phi 17) := by
  refine pureFn_auto (given := []) mix con19 Try.func17 (by kernel_rfl) (v := vc17) (by kernel_rfl) ?_
  intro ds h hp
  obtain rfl := h
  simp only [vc17, vh_obl, vh_call, vh_room, vh_branch, vh_loop, vh_again, vh_ret]
  refine ⟨fun _ => ⟨by decide, by decide⟩, fun _ => ⟨by decide +kernel, by decide +kernel⟩, fun _ => ⟨by decide +kernel, by decide +kernel⟩, fun _ => (by decide +kernel : mayB _ _ _ = true), ⟨fun _ => ⟨fun _ => (by decide +kernel : okB _ _ = true), ⟨fun _ => ⟨fun _ => (by decide +kernel : mayB _ _ _ = true), by kernel_rfl⟩, fun hq => Bool.noConfusion (show true = false from hq)⟩⟩, fun hq => Bool.noConfusion (show true = false from hq)⟩⟩
theorem con17 : Con Try.prog pre phi tb17 := con_cons c17 con19

end Go.Proofs.Ytgljfheohnlpfaa
