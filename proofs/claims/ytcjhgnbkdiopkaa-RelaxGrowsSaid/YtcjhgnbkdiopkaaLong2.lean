import Derived.Test.YtcjhgnbkdiopkaaLong
namespace Go.Proofs.Ytcjhgnbkdiopkaa.Abs
open Go Go.RowKit
set_option linter.unusedVariables false
set_option linter.unusedSimpArgs false
set_option maxRecDepth 100000

theorem flat_false (k : Nat) : (List.replicate k [Value.bool false]).flatten = (List.replicate k false).map Value.bool := by
  induction k with
  | zero => rfl
  | succ k ih => simp only [List.replicate_succ, List.flatten_cons, ih, List.map_cons, List.cons_append, List.nil_append]

theorem f21_len (X : Ext) (L : List Frag) (B : List Bool) (n c m d lb : Nat) (ow ow' : Bool) (sz sz' : Nat) (σ : Heap) (hl : look σ n = some ⟨L.flatMap Frag.cells, ow, sz⟩) (hb : look σ m = some ⟨B.map .bool, ow', sz'⟩)
    (hL : ∀ x ∈ L, x.fine) (h4 : L.length ≤ 400) (hlb : lb = B.length) (hB : B.length = L.length) :
    CW Try.prog X 21 [.slice (some ⟨n, 0, none⟩) L.length c, .slice (some ⟨m, 0, none⟩) lb d] σ fun v σ' => ∃ p c', v = .slice (some ⟨p, 0, none⟩) (L.length + 1) c' ∧ σ.length ≤ p ∧ σ <+: σ' ∧ look σ' p = some ⟨(offsTo L B L.length).1.map (.int .i64), true, 1⟩ :=
  hlb ▸ f21_ok X L B n c m d ow ow' sz sz' σ hl hb hL h4 hB
set_option maxHeartbeats 1000000 in
theorem f22_ok (X : Ext) (L : List Frag) (n c : Nat) (ow : Bool) (sz : Nat) (σ : Heap) (hl : look σ n = some ⟨L.flatMap Frag.cells, ow, sz⟩) (h0 : (validate L).1 = 0) :
    CW Try.prog X 22 [.slice (some ⟨n, 0, none⟩) L.length c] σ fun v σ' => ∃ p c' m, v = .slice (some ⟨p, 0, none⟩) L.length c' ∧ σ <+: σ' ∧ look σ' p = some ⟨(iter L m).map .bool, true, 1⟩ ∧ iter L (m + 1) = iter L m := by
  obtain ⟨h4, hL, h00⟩ := validate_fine h0
  have hV : ∀ x ∈ L, fragErr x L.length = 0 := by
    unfold validate at h0
    rw [if_neg (by omega)] at h0
    exact fval_fine L _ L 0 h0
  refine cw_in Try.func22 rfl Try.ntmps22 (rs := [.tmp 2]) rfl (by kernel_rfl) (by exact Nat.le_of_ble_eq_true rfl) ?_
  have hn : n < σ.length := look_lt hl
  have hw : (L.length : Int) ≤ 140737488355328 := by omega
  have hw1 : (L.length : Int) * 1 ≤ 140737488355328 := by omega
  simp only [go_sem, ↓reduceIte, Nat.reduceEqDiff, Nat.reduceAdd, Nat.reduceMul, Nat.reduceLT, Nat.reduceLeDiff, Int.reduceLT, Int.reduceLE, Int.reduceNeg, Int.reduceAdd, Int.reduceSub, Int.reduceMul, Int.reduceToNat, Int.reduceEq, Int.reduceNe, Int.cast_ofNat_Int, Int.natCast_one, Int.natCast_zero, Int.natCast_add, reduceCtorEq, hw, hw1, flat_false]
  refine LW_run (fun k T ρ => ∃ p c' m, σ <+: ρ ∧ T 0 = .slice (some ⟨n, 0, none⟩) L.length c ∧ T 3 = .slice (some ⟨p, 0, none⟩) L.length c' ∧ (L.length = 0 → c' = 0) ∧ σ.length ≤ p ∧ look ρ p = some ⟨(iter L m).map .bool, true, 1⟩ ∧ k = lows (iter L m)) (lows (iter L 0)) ⟨σ.length, L.length, 0, List.prefix_append _ _, rfl, rfl, fun h => h, Nat.le_refl _, by rw [look_app_new, look_zero]; rfl, rfl⟩ ?_
  rintro k T ρ ⟨p, c', m, hp, t0, t3, hc', hpn, hA, rfl⟩
  have hlA := iter_len L m
  have hst : stepTo L (iter L m) L.length = iter L (m + 1) := rfl
  generalize hAA : iter L m = A at *
  simp only [go_sem, ↓reduceIte, Nat.reduceEqDiff, Nat.reduceAdd, Nat.reduceMul, Nat.reduceLT, Nat.reduceLeDiff, Int.reduceLT, Int.reduceLE, Int.reduceNeg, Int.reduceAdd, Int.reduceSub, Int.reduceMul, Int.reduceToNat, Int.reduceEq, Int.reduceNe, Int.cast_ofNat_Int, Int.natCast_one, Int.natCast_zero, Int.natCast_add, reduceCtorEq, t0, t3]
  refine (f21_len X L A n c p c' _ ow true sz 1 ρ (look_prefix hp hl) hA hL h4 hlA.symm hlA).mono ?_
  rintro _ ρ1 ⟨po, co, rfl, hpo, hp1, hO⟩
  simp only [go_sem, ↓reduceIte, Nat.reduceEqDiff, Nat.reduceAdd, Nat.reduceMul, Nat.reduceLT, Nat.reduceLeDiff, Int.reduceLT, Int.reduceLE, Int.reduceNeg, Int.reduceAdd, Int.reduceSub, Int.reduceMul, Int.reduceToNat, Int.reduceEq, Int.reduceNe, Int.cast_ofNat_Int, Int.natCast_one, Int.natCast_zero, Int.natCast_add, reduceCtorEq, t0, t3]
  refine (f27_pre X A p c' _ true 1 ρ1 (look_prefix hp1 hA) hlA.symm hc' (by omega)).mono ?_
  rintro _ ρ2 ⟨pn, cn, rfl, hpn2, hp2, hN⟩
  simp only [go_sem, ↓reduceIte, Nat.reduceEqDiff, Nat.reduceAdd, Nat.reduceMul, Nat.reduceLT, Nat.reduceLeDiff, Int.reduceLT, Int.reduceLE, Int.reduceNeg, Int.reduceAdd, Int.reduceSub, Int.reduceMul, Int.reduceToNat, Int.reduceEq, Int.reduceNe, Int.cast_ofNat_Int, Int.natCast_one, Int.natCast_zero, Int.natCast_add, reduceCtorEq, t0, t3]
  have d1 : p < ρ.length := look_lt hA
  have d2 : po < ρ1.length := look_lt hO
  have l1 := hp1.length_le
  have l2 := hp2.length_le
  have l0 := hp.length_le
  refine LW_run (fun k T ρ' => ∃ i : Nat, i + k = L.length ∧ σ <+: ρ' ∧ T 0 = .slice (some ⟨n, 0, none⟩) L.length c ∧ T 3 = .slice (some ⟨p, 0, none⟩) L.length c' ∧ T 4 = .slice (some ⟨po, 0, none⟩) (L.length + 1) co ∧ T 5 = .slice (some ⟨pn, 0, none⟩) L.length cn
    ∧ T 17 = .slice (some ⟨n, 0, none⟩) L.length c ∧ T 18 = .int .i64 L.length ∧ T 19 = .int .i64 i ∧ look ρ' p = some ⟨A.map .bool, true, 1⟩ ∧ look ρ' po = some ⟨(offsTo L A L.length).1.map (.int .i64), true, 1⟩ ∧ look ρ' pn = some ⟨(stepTo L A i).map .bool, true, 1⟩) L.length
    ⟨0, by simp, hp.trans (hp1.trans hp2), by simp only [go_sem, ↓reduceIte, Nat.reduceEqDiff, Nat.reduceAdd, Nat.reduceMul, Nat.reduceLT, Nat.reduceLeDiff, Int.reduceLT, Int.reduceLE, Int.reduceNeg, Int.reduceAdd, Int.reduceSub, Int.reduceMul, Int.reduceToNat, Int.reduceEq, Int.reduceNe, Int.cast_ofNat_Int, Int.natCast_one, Int.natCast_zero, Int.natCast_add, reduceCtorEq, t0], by simp only [go_sem, ↓reduceIte, Nat.reduceEqDiff, Nat.reduceAdd, Nat.reduceMul, Nat.reduceLT, Nat.reduceLeDiff, Int.reduceLT, Int.reduceLE, Int.reduceNeg, Int.reduceAdd, Int.reduceSub, Int.reduceMul, Int.reduceToNat, Int.reduceEq, Int.reduceNe, Int.cast_ofNat_Int, Int.natCast_one, Int.natCast_zero, Int.natCast_add, reduceCtorEq, t3], rfl, rfl, rfl, rfl, rfl, look_prefix (hp1.trans hp2) hA, look_prefix hp2 hO, hN⟩ ?_
  rintro k2 T2 ρ3 ⟨i, hk, hs3, u0, u3, u4, u5, u17, u18, u19, hA3, hO3, hN3⟩
  simp only [go_sem, ↓reduceIte, Nat.reduceEqDiff, Nat.reduceAdd, Nat.reduceMul, Nat.reduceLT, Nat.reduceLeDiff, Int.reduceLT, Int.reduceLE, Int.reduceNeg, Int.reduceAdd, Int.reduceSub, Int.reduceMul, Int.reduceToNat, Int.reduceEq, Int.reduceNe, Int.cast_ofNat_Int, Int.natCast_one, Int.natCast_zero, Int.natCast_add, reduceCtorEq, u0, u3, u4, u5, u17, u18, u19]
  refine fork_dec (fun _ => ?_) (fun _ => ?_)
  · rename_i hi
    obtain ⟨x, hx⟩ : ∃ x, L[i]? = some x := ⟨L[i]'(by omega), List.getElem?_eq_getElem _⟩
    obtain ⟨b, hb⟩ : ∃ b, A[i]? = some b := ⟨A[i]'(by omega), List.getElem?_eq_getElem _⟩
    have e1 := look_lt hA3
    have e2 := look_lt hO3
    have e3 := look_lt hN3
    have hn3 : n < ρ3.length := Nat.lt_of_lt_of_le hn hs3.length_le
    have hl3 := look_prefix hs3 hl
    simp only [go_sem, ↓reduceIte, Nat.reduceEqDiff, Nat.reduceAdd, Nat.reduceMul, Nat.reduceLT, Nat.reduceLeDiff, Int.reduceLT, Int.reduceLE, Int.reduceNeg, Int.reduceAdd, Int.reduceSub, Int.reduceMul, Int.reduceToNat, Int.reduceEq, Int.reduceNe, Int.cast_ofNat_Int, Int.natCast_one, Int.natCast_zero, Int.natCast_add, reduceCtorEq, u0, u3, u4, u5, u17, u18, u19, hi, look_app_lt hn3, hl3, Frag.take x L i hx, Frag.len, show i * 6 + 6 ≤ L.length * 6 by omega, Frag.cells]
    have hbb := dist_bound (A := A) (L := L) (x := x) (i := i) (by omega)
    have hlt : i + 1 ≤ (stepTo L A i).length := by rw [stepTo_len]; omega
    have hls := stepTo_len L A i
    have hpe : p ≠ pn := by omega
    have hpe2 : po ≠ pn := by omega
    have hpn3 : σ.length ≤ pn := by omega
    refine fork_dec (fun _ => ?_) (fun _ => ?_)
    · rename_i hk3
      have hV1 := hV x (List.mem_of_getElem? hx)
      have hb4 := hbb hk3 hL hV1 h4
      have hstp : stepTo L A (i + 1) = (stepTo L A i).set i (b || far L A x i) := by
        rw [stepTo, hx]
        simp only [hk3, if_true, List.getD_eq_getElem?_getD, hb, Option.getD_some]
      simp only [go_sem, ↓reduceIte, Nat.reduceEqDiff, Nat.reduceAdd, Nat.reduceMul, Nat.reduceLT, Nat.reduceLeDiff, Int.reduceLT, Int.reduceLE, Int.reduceNeg, Int.reduceAdd, Int.reduceSub, Int.reduceMul, Int.reduceToNat, Int.reduceEq, Int.reduceNe, Int.cast_ofNat_Int, Int.natCast_one, Int.natCast_zero, Int.natCast_add, reduceCtorEq, u0, u3, u4, u5, u17, u18, u19, hi]
      refine (f25_dist X L A i x n c po co _ ow true sz 1 _ ((look_app_lt hn3).trans hl3) ((look_app_lt e2).trans hO3) rfl hx hk3 hL hV1 h4).mono ?_
      rintro _ _ ⟨rfl, τ, rfl⟩
      simp only [go_sem, ↓reduceIte, Nat.reduceEqDiff, Nat.reduceAdd, Nat.reduceMul, Nat.reduceLT, Nat.reduceLeDiff, Int.reduceLT, Int.reduceLE, Int.reduceNeg, Int.reduceAdd, Int.reduceSub, Int.reduceMul, Int.reduceToNat, Int.reduceEq, Int.reduceNe, Int.cast_ofNat_Int, Int.natCast_one, Int.natCast_zero, Int.natCast_add, reduceCtorEq, u0, u3, u4, u5, u17, u18, u19, hi, look_app_lt e1, look_app_lt e2, look_app_lt e3, hA3, hO3, hN3, List.getElem?_map, hb, set_app_lt e3, List.length_map, hls, hlA]
      cases b with
      | true =>
        rw [Bool.true_or] at hstp
        simp only [go_sem, ↓reduceIte, Nat.reduceEqDiff, Nat.reduceAdd, Nat.reduceMul, Nat.reduceLT, Nat.reduceLeDiff, Int.reduceLT, Int.reduceLE, Int.reduceNeg, Int.reduceAdd, Int.reduceSub, Int.reduceMul, Int.reduceToNat, Int.reduceEq, Int.reduceNe, Int.cast_ofNat_Int, Int.natCast_one, Int.natCast_zero, Int.natCast_add, reduceCtorEq, u0, u3, u4, u5, u17, u18, u19, hi, look_app_lt e3, hN3, set_app_lt e3, List.length_map, hls, hlA, show i + 1 ≤ L.length by omega]
        exact ⟨k2 - 1, by omega, i + 1, by omega, (prefix_set hs3 hpn3).trans (List.prefix_append _ _), by rw [wrap64 (by omega)]; rfl, by rw [look_app_lt (by rw [List.length_set]; exact e1), look_set e3, if_neg hpe]; exact hA3, by rw [look_app_lt (by rw [List.length_set]; exact e2), look_set e3, if_neg hpe2]; exact hO3, by rw [look_app_lt (by rw [List.length_set]; exact e3), look_set e3, if_pos rfl, hstp, List.map_set]⟩
      | false =>
        rw [Bool.false_or] at hstp
        simp only [go_sem, ↓reduceIte, Nat.reduceEqDiff, Nat.reduceAdd, Nat.reduceMul, Nat.reduceLT, Nat.reduceLeDiff, Int.reduceLT, Int.reduceLE, Int.reduceNeg, Int.reduceAdd, Int.reduceSub, Int.reduceMul, Int.reduceToNat, Int.reduceEq, Int.reduceNe, Int.cast_ofNat_Int, Int.natCast_one, Int.natCast_zero, Int.natCast_add, reduceCtorEq, u0, u3, u4, u5, u17, u18, u19, hi, look_app_lt e3, hN3, set_app_lt e3, List.length_map, hls, hlA, show i + 1 ≤ L.length by omega]
        refine fork_dec (fun _ => ?_) (fun _ => ?_)
        · rename_i hd1
          have hf : far L A x i = true := by simp [far, hd1]
          rw [hf] at hstp
          simp only [go_sem, ↓reduceIte, Nat.reduceEqDiff, Nat.reduceAdd, Nat.reduceMul, Nat.reduceLT, Nat.reduceLeDiff, Int.reduceLT, Int.reduceLE, Int.reduceNeg, Int.reduceAdd, Int.reduceSub, Int.reduceMul, Int.reduceToNat, Int.reduceEq, Int.reduceNe, Int.cast_ofNat_Int, Int.natCast_one, Int.natCast_zero, Int.natCast_add, reduceCtorEq, u0, u3, u4, u5, u17, u18, u19, hi, look_app_lt e3, hN3, set_app_lt e3, List.length_map, hls, hlA, show i + 1 ≤ L.length by omega, hd1]
          exact ⟨k2 - 1, by omega, i + 1, by omega, (prefix_set hs3 hpn3).trans (List.prefix_append _ _), by rw [wrap64 (by omega)]; rfl, by rw [look_app_lt (by rw [List.length_set]; exact e1), look_set e3, if_neg hpe]; exact hA3, by rw [look_app_lt (by rw [List.length_set]; exact e2), look_set e3, if_neg hpe2]; exact hO3, by rw [look_app_lt (by rw [List.length_set]; exact e3), look_set e3, if_pos rfl, hstp, List.map_set]⟩
        · rename_i hd1
          simp only [go_sem, ↓reduceIte, Nat.reduceEqDiff, Nat.reduceAdd, Nat.reduceMul, Nat.reduceLT, Nat.reduceLeDiff, Int.reduceLT, Int.reduceLE, Int.reduceNeg, Int.reduceAdd, Int.reduceSub, Int.reduceMul, Int.reduceToNat, Int.reduceEq, Int.reduceNe, Int.cast_ofNat_Int, Int.natCast_one, Int.natCast_zero, Int.natCast_add, reduceCtorEq, u0, u3, u4, u5, u17, u18, u19, hi, look_app_lt e3, hN3, set_app_lt e3, List.length_map, hls, hlA, show i + 1 ≤ L.length by omega, hd1]
          have hf : far L A x i = decide (127 < dist L A x i) := by simp [far]; omega
          rw [hf] at hstp
          exact ⟨k2 - 1, by omega, i + 1, by omega, (prefix_set hs3 hpn3).trans (List.prefix_append _ _), by rw [wrap64 (by omega)]; rfl, by rw [look_app_lt (by rw [List.length_set]; exact e1), look_set e3, if_neg hpe]; exact hA3, by rw [look_app_lt (by rw [List.length_set]; exact e2), look_set e3, if_neg hpe2]; exact hO3, by rw [look_app_lt (by rw [List.length_set]; exact e3), look_set e3, if_pos rfl, hstp, List.map_set]⟩
    · rename_i hk3
      have hstp : stepTo L A (i + 1) = stepTo L A i := by
        rw [stepTo, hx]
        simp only [hk3, if_false]
      simp only [go_sem, ↓reduceIte, Nat.reduceEqDiff, Nat.reduceAdd, Nat.reduceMul, Nat.reduceLT, Nat.reduceLeDiff, Int.reduceLT, Int.reduceLE, Int.reduceNeg, Int.reduceAdd, Int.reduceSub, Int.reduceMul, Int.reduceToNat, Int.reduceEq, Int.reduceNe, Int.cast_ofNat_Int, Int.natCast_one, Int.natCast_zero, Int.natCast_add, reduceCtorEq, u0, u3, u4, u5, u17, u18, u19, hi]
      exact ⟨k2 - 1, by omega, i + 1, by omega, hs3.trans (List.prefix_append _ _), by rw [wrap64 (by omega)]; rfl, (look_app_lt e1).trans hA3, (look_app_lt e2).trans hO3, by rw [look_app_lt e3, hstp]; exact hN3⟩
  · rename_i hi
    have hie : i = L.length := by omega
    subst hie
    simp only [go_sem, ↓reduceIte, Nat.reduceEqDiff, Nat.reduceAdd, Nat.reduceMul, Nat.reduceLT, Nat.reduceLeDiff, Int.reduceLT, Int.reduceLE, Int.reduceNeg, Int.reduceAdd, Int.reduceSub, Int.reduceMul, Int.reduceToNat, Int.reduceEq, Int.reduceNe, Int.cast_ofNat_Int, Int.natCast_one, Int.natCast_zero, Int.natCast_add, reduceCtorEq, u0, u3, u4, u5, u17, u18, u19, hi]
    refine (f28_ok X (stepTo L A L.length) A pn cn p c' _ _ true true 1 1 ρ3 hN3 hA3 (by rw [stepTo_len, hlA]) hlA.symm (by rw [stepTo_len]; omega)).mono ?_
    rintro _ _ ⟨rfl, rfl⟩
    simp only [go_sem, ↓reduceIte, Nat.reduceEqDiff, Nat.reduceAdd, Nat.reduceMul, Nat.reduceLT, Nat.reduceLeDiff, Int.reduceLT, Int.reduceLE, Int.reduceNeg, Int.reduceAdd, Int.reduceSub, Int.reduceMul, Int.reduceToNat, Int.reduceEq, Int.reduceNe, Int.cast_ofNat_Int, Int.natCast_one, Int.natCast_zero, Int.natCast_add, reduceCtorEq, u0, u3, u4, u5]
    refine fork_dec (fun _ => ?_) (fun _ => ?_)
    · rename_i he
      simp only [go_sem, ↓reduceIte, Nat.reduceEqDiff, Nat.reduceAdd, Nat.reduceMul, Nat.reduceLT, Nat.reduceLeDiff, Int.reduceLT, Int.reduceLE, Int.reduceNeg, Int.reduceAdd, Int.reduceSub, Int.reduceMul, Int.reduceToNat, Int.reduceEq, Int.reduceNe, Int.cast_ofNat_Int, Int.natCast_one, Int.natCast_zero, Int.natCast_add, reduceCtorEq, u0, u3, u4, u5, he]
      exact ⟨p, c', m, rfl, hs3, by rw [hAA]; exact hA3, by rw [← hst, he, hAA]⟩
    · rename_i he
      simp only [go_sem, ↓reduceIte, Nat.reduceEqDiff, Nat.reduceAdd, Nat.reduceMul, Nat.reduceLT, Nat.reduceLeDiff, Int.reduceLT, Int.reduceLE, Int.reduceNeg, Int.reduceAdd, Int.reduceSub, Int.reduceMul, Int.reduceToNat, Int.reduceEq, Int.reduceNe, Int.cast_ofNat_Int, Int.natCast_one, Int.natCast_zero, Int.natCast_add, reduceCtorEq, u0, u3, u4, u5, he]
      have hlow := (stepTo_lows L A L.length (by omega)).resolve_left he
      refine ⟨lows (iter L (m + 1)), by rw [← hst]; exact hlow, pn, cn, m + 1, hs3, rfl, fun hz => ?_, by omega, by rw [← hst]; exact hN3, rfl⟩
      exfalso
      apply he
      rw [List.eq_nil_of_length_eq_zero (hlA.trans hz), List.eq_nil_of_length_eq_zero (by rw [stepTo_len]; rfl : (stepTo L [] L.length).length = 0)]
end Go.Proofs.Ytcjhgnbkdiopkaa.Abs
