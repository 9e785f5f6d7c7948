import Derived.Test.YtcjhgnbkdiopkaaGrow
namespace Go.Proofs.Ytcjhgnbkdiopkaa.Abs
open Go Go.RowKit
set_option linter.unusedVariables false
set_option linter.unusedSimpArgs false
set_option maxRecDepth 100000

theorem f11_len (X : Ext) (L : List Frag) (n c ll : Nat) (hll : ll = L.length) (ow : Bool) (sz : Nat) (σ : Heap) (hl : look σ n = some ⟨L.flatMap Frag.cells, ow, sz⟩) :
    CW Try.prog X 11 [.slice (some ⟨n, 0, none⟩) ll c] σ fun v σ' => σ <+: σ' ∧ SetV L v σ' := hll ▸ f11_ok X L n c ow sz σ hl
theorem grown_of {L : List Frag} {i : Nat} {x : Frag} {s : Int} (hx : L[i]? = some x) (hk : x.kind = 1) (hs : x.size ≤ s) (h0 : (validate L).1 = 0) (h2 : ∀ x ∈ L, x.kind ≠ 2) (h3 : ∀ x ∈ L, x.kind = 3 → x.add = 0) : Grown L (L.set i { x with size := s }) where
  len := by simp
  get j y hy := by
    obtain ⟨v1, v2, v3⟩ := validate_fine h0
    have hV : ∀ x ∈ L, fragErr x L.length = 0 := by
      unfold validate at h0
      rw [if_neg (by omega)] at h0
      exact fval_fine L _ L 0 h0
    have hm := List.mem_of_getElem? hy
    refine ⟨h2 y hm, h3 y hm, v2 y hm, ?_⟩
    have hb : y.kind = 3 → 0 ≤ y.target ∧ y.target ≤ L.length := fun hk3 => by
      have := fragErr_branch (hV y hm) hk3
      omega
    rw [List.getElem?_set]
    by_cases hij : i = j
    · subst hij
      rw [hx] at hy
      obtain rfl := Option.some.inj hy
      have := (List.getElem?_eq_some_iff.1 hx).1
      exact ⟨{ x with size := s }, by rw [if_pos rfl, if_pos this], rfl, rfl, rfl, rfl, rfl, hs, hb⟩
    · exact ⟨y, by rw [if_neg hij]; exact hy, rfl, rfl, rfl, rfl, rfl, Int.le_refl _, hb⟩

set_option maxHeartbeats 1000000 in
theorem f6_ok (X : Ext) (L : List Frag) (i more : Int) (n c : Nat) (ow : Bool) (sz : Nat) (σ : Heap) (hl : look σ n = some ⟨L.flatMap Frag.cells, ow, sz⟩) (hz : L.length * 48 ≤ 140737488351232) :
    CW Try.prog X 6 [.slice (some ⟨n, 0, none⟩) L.length c, .int .i64 i, .int .i64 more] σ fun v σ' => v = .bool true := by
  refine cw_in Try.func6 rfl Try.ntmps6 (rs := [.tmp 6]) rfl (by kernel_rfl) (by exact Nat.le_of_ble_eq_true rfl) ?_
  have hn : n < σ.length := look_lt hl
  simp only [go_sem, ↓reduceIte, Nat.reduceEqDiff, Nat.reduceAdd, Nat.reduceMul, Nat.reduceLT, Nat.reduceLeDiff, Int.reduceLT, Int.reduceLE, Int.reduceNeg, Int.reduceAdd, Int.reduceSub, Int.reduceMul, Int.reduceToNat, Int.reduceEq, Int.reduceNe, Int.cast_ofNat_Int, Int.natCast_one, Int.natCast_zero, Int.natCast_add, reduceCtorEq]
  refine (f10_ok X _).mono ?_
  rintro _ _ ⟨rfl, τ0, rfl⟩
  simp only [go_sem, ↓reduceIte, Nat.reduceEqDiff, Nat.reduceAdd, Nat.reduceMul, Nat.reduceLT, Nat.reduceLeDiff, Int.reduceLT, Int.reduceLE, Int.reduceNeg, Int.reduceAdd, Int.reduceSub, Int.reduceMul, Int.reduceToNat, Int.reduceEq, Int.reduceNe, Int.cast_ofNat_Int, Int.natCast_one, Int.natCast_zero, Int.natCast_add, reduceCtorEq]
  refine (f11_ok X L n c ow sz _ ((look_app_lt hn).trans hl)).mono ?_
  rintro v _ ⟨⟨τ1, rfl⟩, ⟨h, rfl⟩ | ⟨h0, p, c', q, d', m, rfl, hA, hO, hfix⟩⟩
  · simp only [go_sem, ↓reduceIte, Nat.reduceEqDiff, Nat.reduceAdd, Nat.reduceMul, Nat.reduceLT, Nat.reduceLeDiff, Int.reduceLT, Int.reduceLE, Int.reduceNeg, Int.reduceAdd, Int.reduceSub, Int.reduceMul, Int.reduceToNat, Int.reduceEq, Int.reduceNe, Int.cast_ofNat_Int, Int.natCast_one, Int.natCast_zero, Int.natCast_add, reduceCtorEq, faultV, h]
  simp only [go_sem, ↓reduceIte, Nat.reduceEqDiff, Nat.reduceAdd, Nat.reduceMul, Nat.reduceLT, Nat.reduceLeDiff, Int.reduceLT, Int.reduceLE, Int.reduceNeg, Int.reduceAdd, Int.reduceSub, Int.reduceMul, Int.reduceToNat, Int.reduceEq, Int.reduceNe, Int.cast_ofNat_Int, Int.natCast_one, Int.natCast_zero, Int.natCast_add, reduceCtorEq, faultV]
  refine (f17_ok X L n c ow sz _ ((look_app_lt hn).trans hl) hz).mono ?_
  rintro _ _ ⟨b17, rfl, hb17, rfl⟩
  cases b17 with
  | true => simp only [go_sem, ↓reduceIte, Nat.reduceEqDiff, Nat.reduceAdd, Nat.reduceMul, Nat.reduceLT, Nat.reduceLeDiff, Int.reduceLT, Int.reduceLE, Int.reduceNeg, Int.reduceAdd, Int.reduceSub, Int.reduceMul, Int.reduceToNat, Int.reduceEq, Int.reduceNe, Int.cast_ofNat_Int, Int.natCast_one, Int.natCast_zero, Int.natCast_add, reduceCtorEq]
  | false =>
    simp only [go_sem, ↓reduceIte, Nat.reduceEqDiff, Nat.reduceAdd, Nat.reduceMul, Nat.reduceLT, Nat.reduceLeDiff, Int.reduceLT, Int.reduceLE, Int.reduceNeg, Int.reduceAdd, Int.reduceSub, Int.reduceMul, Int.reduceToNat, Int.reduceEq, Int.reduceNe, Int.cast_ofNat_Int, Int.natCast_one, Int.natCast_zero, Int.natCast_add, reduceCtorEq, wrap64 (show -9223372036854775808 ≤ (L.length : Int) - 1 ∧ (L.length : Int) - 1 ≤ 9223372036854775807 by omega)]
    refine (f9_ok X i 0 _ _).mono ?_
    rintro _ _ ⟨rfl, rfl⟩
    by_cases hi : 0 ≤ i ∧ i ≤ (L.length : Int) - 1
    case neg => simp only [go_sem, ↓reduceIte, Nat.reduceEqDiff, Nat.reduceAdd, Nat.reduceMul, Nat.reduceLT, Nat.reduceLeDiff, Int.reduceLT, Int.reduceLE, Int.reduceNeg, Int.reduceAdd, Int.reduceSub, Int.reduceMul, Int.reduceToNat, Int.reduceEq, Int.reduceNe, Int.cast_ofNat_Int, Int.natCast_one, Int.natCast_zero, Int.natCast_add, reduceCtorEq, hi]
    obtain ⟨i, rfl⟩ : ∃ i' : Nat, i = (i' : Int) := ⟨i.toNat, by omega⟩
    obtain ⟨x, hx⟩ : ∃ x, L[i]? = some x := ⟨L[i]'(by omega), List.getElem?_eq_getElem _⟩
    have g0 : (L.flatMap Frag.cells)[i * 6]? = x.cells[0]? := by simpa using Frag.get x L i 0 hx (by omega)
    by_cases hk : x.kind = 1
    case neg => simp only [go_sem, ↓reduceIte, Nat.reduceEqDiff, Nat.reduceAdd, Nat.reduceMul, Nat.reduceLT, Nat.reduceLeDiff, Int.reduceLT, Int.reduceLE, Int.reduceNeg, Int.reduceAdd, Int.reduceSub, Int.reduceMul, Int.reduceToNat, Int.reduceEq, Int.reduceNe, Int.cast_ofNat_Int, Int.natCast_one, Int.natCast_zero, Int.natCast_add, reduceCtorEq, hi, show (i : Int) < L.length by omega, look_app_lt hn, hl, g0, Frag.cells, hk]
    simp only [go_sem, ↓reduceIte, Nat.reduceEqDiff, Nat.reduceAdd, Nat.reduceMul, Nat.reduceLT, Nat.reduceLeDiff, Int.reduceLT, Int.reduceLE, Int.reduceNeg, Int.reduceAdd, Int.reduceSub, Int.reduceMul, Int.reduceToNat, Int.reduceEq, Int.reduceNe, Int.cast_ofNat_Int, Int.natCast_one, Int.natCast_zero, Int.natCast_add, reduceCtorEq, hi, show (i : Int) < L.length by omega, look_app_lt hn, hl, g0, Frag.cells, hk]
    refine (f9_ok X more 0 100 _).mono ?_
    rintro _ _ ⟨rfl, rfl⟩
    by_cases hm : 0 ≤ more ∧ more ≤ 100
    case neg => simp only [go_sem, ↓reduceIte, Nat.reduceEqDiff, Nat.reduceAdd, Nat.reduceMul, Nat.reduceLT, Nat.reduceLeDiff, Int.reduceLT, Int.reduceLE, Int.reduceNeg, Int.reduceAdd, Int.reduceSub, Int.reduceMul, Int.reduceToNat, Int.reduceEq, Int.reduceNe, Int.cast_ofNat_Int, Int.natCast_one, Int.natCast_zero, Int.natCast_add, reduceCtorEq, hm]
    simp only [go_sem, ↓reduceIte, Nat.reduceEqDiff, Nat.reduceAdd, Nat.reduceMul, Nat.reduceLT, Nat.reduceLeDiff, Int.reduceLT, Int.reduceLE, Int.reduceNeg, Int.reduceAdd, Int.reduceSub, Int.reduceMul, Int.reduceToNat, Int.reduceEq, Int.reduceNe, Int.cast_ofNat_Int, Int.natCast_one, Int.natCast_zero, Int.natCast_add, reduceCtorEq, hm]
    refine (f18_ok X L n c ow sz _ ((look_app_lt hn).trans hl) hz).mono ?_
    rintro _ _ ⟨b18, rfl, hb18, rfl⟩
    cases b18 with
    | true => simp only [go_sem, ↓reduceIte, Nat.reduceEqDiff, Nat.reduceAdd, Nat.reduceMul, Nat.reduceLT, Nat.reduceLeDiff, Int.reduceLT, Int.reduceLE, Int.reduceNeg, Int.reduceAdd, Int.reduceSub, Int.reduceMul, Int.reduceToNat, Int.reduceEq, Int.reduceNe, Int.cast_ofNat_Int, Int.natCast_one, Int.natCast_zero, Int.natCast_add, reduceCtorEq]
    | false =>
      have hG := fun s hs => grown_of (s := s) hx hk hs h0 (hb17 rfl) (hb18 rfl)
      obtain ⟨v1, v2, v3⟩ := validate_fine h0
      have hxf := (v2 x (List.mem_of_getElem? hx)).2.1
      simp only [List.append_assoc, List.cons_append, List.nil_append] at hA
      generalize hg : (σ ++ (τ0 ++ (τ1 ++ [some ⟨[.int .i64 0, .int .i64 0], true, 0⟩]))) = ρ
      have hA' : look ρ p = some ⟨(iter L m).map .bool, true, 1⟩ := hg ▸ look_prefix (by simp) hA
      have hl' : look ρ n = some ⟨L.flatMap Frag.cells, ow, sz⟩ := hg ▸ (look_app_lt hn).trans hl
      clear hA hO hg hl hn
      have hs : asrc ρ 6 (.slice (some ⟨n, 0, none⟩) L.length c) = some (L.length, L.flatMap Frag.cells) := by
        rw [src_ptr hl' (by simp only [Frag.len]; omega)]
        simp only [List.drop_zero, List.take_of_length_le (show (L.flatMap Frag.cells).length ≤ L.length * 6 by rw [Frag.len]; omega)]
      have g1 := Frag.get x L i 1 hx (by omega)
      simp only [go_sem, ↓reduceIte, Nat.reduceEqDiff, Nat.reduceAdd, Nat.reduceMul, Nat.reduceLT, Nat.reduceLeDiff, Int.reduceLT, Int.reduceLE, Int.reduceNeg, Int.reduceAdd, Int.reduceSub, Int.reduceMul, Int.reduceToNat, Int.reduceEq, Int.reduceNe, Int.cast_ofNat_Int, Int.natCast_one, Int.natCast_zero, Int.natCast_add, reduceCtorEq, hs, show L.length * 48 ≤ 140737488355328 by omega, show (i : Int) < L.length by omega, g1, Frag.cells, Frag.len, show i * 6 + 1 + 1 ≤ L.length * 6 by omega, wrap64 (show -9223372036854775808 ≤ x.size + more ∧ x.size + more ≤ 9223372036854775807 by omega)]
      rw [Frag.set x _ L i hx]
      have hGr := hG (x.size + more) (by omega)
      have hLL : (L.set i { x with size := x.size + more }).length = L.length := by simp
      generalize L.set i { x with size := x.size + more } = L' at hGr hLL ⊢
      refine (f11_len X L' ρ.length _ L.length hLL.symm true 6 _ (by rw [look_app_new, look_zero])).mono ?_
      rintro v _ ⟨⟨τ1, rfl⟩, ⟨h, rfl⟩ | ⟨h0', p2, c2, q2, d2, m2, rfl, hA2, hO2, hfix2⟩⟩
      · simp only [go_sem, ↓reduceIte, Nat.reduceEqDiff, Nat.reduceAdd, Nat.reduceMul, Nat.reduceLT, Nat.reduceLeDiff, Int.reduceLT, Int.reduceLE, Int.reduceNeg, Int.reduceAdd, Int.reduceSub, Int.reduceMul, Int.reduceToNat, Int.reduceEq, Int.reduceNe, Int.cast_ofNat_Int, Int.natCast_one, Int.natCast_zero, Int.natCast_add, reduceCtorEq, faultV, h]
      · have hle := fix_grown hGr hfix hfix2
        have hlA := iter_len L m
        have hlA2 := iter_len L' m2
        simp only [List.append_assoc, List.cons_append, List.nil_append] at hA2
        rw [hLL] at hlA2
        simp only [go_sem, ↓reduceIte, Nat.reduceEqDiff, Nat.reduceAdd, Nat.reduceMul, Nat.reduceLT, Nat.reduceLeDiff, Int.reduceLT, Int.reduceLE, Int.reduceNeg, Int.reduceAdd, Int.reduceSub, Int.reduceMul, Int.reduceToNat, Int.reduceEq, Int.reduceNe, Int.cast_ofNat_Int, Int.natCast_one, Int.natCast_zero, Int.natCast_add, reduceCtorEq, faultV, hLL]
        generalize hg2 : (ρ ++ some ⟨L'.flatMap Frag.cells, true, 6⟩ :: (τ1 ++ [some ⟨[.int .i64 0, .int .i64 0], true, 0⟩])) = ρ2
        have k1 : look ρ2 p = some ⟨(iter L m).map .bool, true, 1⟩ := hg2 ▸ look_prefix (by simp) hA'
        have k2 : look ρ2 p2 = some ⟨(iter L' m2).map .bool, true, 1⟩ := hg2 ▸ look_prefix (by simp [List.cons_prefix_cons]) hA2
        generalize iter L m = A at *
        generalize iter L' m2 = A2 at *
        refine LW_run (fun k T σ' => ∃ j : Nat, j + k = L.length ∧ σ' = ρ2 ∧ T 0 = .slice (some ⟨n, 0, none⟩) L.length c ∧ T 7 = .slice (some ⟨p, 0, none⟩) L.length c' ∧ T 11 = .slice (some ⟨p2, 0, none⟩) L.length c2 ∧ T 14 = .int .i64 j) L.length ⟨0, by simp, rfl, rfl, rfl, rfl, rfl⟩ ?_
        rintro k T _ ⟨j, hk, rfl, t0, t7, t11, t14⟩
        simp only [go_sem, ↓reduceIte, Nat.reduceEqDiff, Nat.reduceAdd, Nat.reduceMul, Nat.reduceLT, Nat.reduceLeDiff, Int.reduceLT, Int.reduceLE, Int.reduceNeg, Int.reduceAdd, Int.reduceSub, Int.reduceMul, Int.reduceToNat, Int.reduceEq, Int.reduceNe, Int.cast_ofNat_Int, Int.natCast_one, Int.natCast_zero, Int.natCast_add, reduceCtorEq, t0, t7, t11, t14]
        refine fork_dec (fun _ => ?_) (fun _ => ?_)
        · rename_i hj
          obtain ⟨a, ha⟩ : ∃ a, A[j]? = some a := ⟨A[j]'(by omega), List.getElem?_eq_getElem _⟩
          obtain ⟨b, hb⟩ : ∃ b, A2[j]? = some b := ⟨A2[j]'(by omega), List.getElem?_eq_getElem _⟩
          have hab := hle j
          rw [List.getD_eq_getElem?_getD, List.getD_eq_getElem?_getD, ha, hb] at hab
          simp only [Option.getD_some] at hab
          have fin : ∃ j', j' < k ∧ ∃ i' : Nat, i' + j' = L.length ∧ Value.int IntKind.i64 ((j : Int) + 1) = Value.int IntKind.i64 (i' : Int) := ⟨k - 1, by omega, j + 1, by omega, rfl⟩
          cases a with
          | false =>
            simp only [go_sem, ↓reduceIte, Nat.reduceEqDiff, Nat.reduceAdd, Nat.reduceMul, Nat.reduceLT, Nat.reduceLeDiff, Int.reduceLT, Int.reduceLE, Int.reduceNeg, Int.reduceAdd, Int.reduceSub, Int.reduceMul, Int.reduceToNat, Int.reduceEq, Int.reduceNe, Int.cast_ofNat_Int, Int.natCast_one, Int.natCast_zero, Int.natCast_add, reduceCtorEq, t0, t7, t11, t14, hj, k1, k2, List.getElem?_map, ha, hb, wrap64 (show -9223372036854775808 ≤ (j : Int) + 1 ∧ (j : Int) + 1 ≤ 9223372036854775807 by omega)]
            exact fin
          | true =>
            simp only [go_sem, ↓reduceIte, Nat.reduceEqDiff, Nat.reduceAdd, Nat.reduceMul, Nat.reduceLT, Nat.reduceLeDiff, Int.reduceLT, Int.reduceLE, Int.reduceNeg, Int.reduceAdd, Int.reduceSub, Int.reduceMul, Int.reduceToNat, Int.reduceEq, Int.reduceNe, Int.cast_ofNat_Int, Int.natCast_one, Int.natCast_zero, Int.natCast_add, reduceCtorEq, t0, t7, t11, t14, hj, k1, k2, List.getElem?_map, ha, hb, hab rfl, wrap64 (show -9223372036854775808 ≤ (j : Int) + 1 ∧ (j : Int) + 1 ≤ 9223372036854775807 by omega)]
            exact fin
        · rename_i hj
          simp only [go_sem, ↓reduceIte, Nat.reduceEqDiff, Nat.reduceAdd, Nat.reduceMul, Nat.reduceLT, Nat.reduceLeDiff, Int.reduceLT, Int.reduceLE, Int.reduceNeg, Int.reduceAdd, Int.reduceSub, Int.reduceMul, Int.reduceToNat, Int.reduceEq, Int.reduceNe, Int.cast_ofNat_Int, Int.natCast_one, Int.natCast_zero, Int.natCast_add, reduceCtorEq, hj]
end Go.Proofs.Ytcjhgnbkdiopkaa.Abs
