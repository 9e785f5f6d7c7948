import Derived.Test.YtcjhgnbkdiopkaaRofs
namespace Go.Proofs.Ytcjhgnbkdiopkaa.Abs
open Go Go.RowKit
set_option linter.unusedVariables false
set_option linter.unusedSimpArgs false
set_option maxRecDepth 100000

set_option maxHeartbeats 1000000 in
theorem f23_ok (X : Ext) (a b : Int) (σ : Heap) : CW Try.prog X 23 [.int .i64 a, .int .i64 b] σ fun v σ' => v = faultV (a, b) ∧ σ <+: σ' := by
  refine cw_in Try.func23 rfl Try.ntmps23 (rs := [.cell 4 27]) rfl (by kernel_rfl) (by exact Nat.le_of_ble_eq_true rfl) ?_
  simp only [go_sem, ↓reduceIte, Nat.reduceEqDiff, Nat.reduceAdd, Nat.reduceMul, Nat.reduceLT, Nat.reduceLeDiff, Int.reduceLT, Int.reduceLE, Int.reduceNeg, Int.reduceAdd, Int.reduceSub, Int.reduceMul, Int.reduceToNat, Int.reduceEq, Int.reduceNe, Int.cast_ofNat_Int, Int.natCast_one, Int.natCast_zero, Int.natCast_add, reduceCtorEq, faultV]
  exact List.prefix_append _ _

/-- Is a number among the first powers of two? -/
def pw (s : Int) : Nat → Bool
  | 0 => false
  | j + 1 => pw s j || decide ((2 : Int) ^ j = s)
theorem pw_true {s : Int} : ∀ {j : Nat}, pw s j = true → ∃ i, i < j ∧ (2 : Int) ^ i = s
  | 0, h => by simp [pw] at h
  | j + 1, h => by
    simp only [pw, Bool.or_eq_true, decide_eq_true_eq] at h
    rcases h with h | h
    · obtain ⟨i, h1, h2⟩ := pw_true h
      exact ⟨i, by omega, h2⟩
    · exact ⟨j, by omega, h⟩
theorem pw_tab : ∀ n : Fin 257, pw (n.val : Int) 9 = decide (¬ ((n.val : Int) < 1 ∨ Go.bits .and .i64 (n.val : Int) (IntKind.i64.wrap ((n.val : Int) - 1)) ≠ 0)) := by decide +kernel
theorem pw_eq (s : Int) : pw s 9 = decide (¬ (s < 1 ∨ 256 < s ∨ Go.bits .and .i64 s (IntKind.i64.wrap (s - 1)) ≠ 0)) := by
  by_cases h : 0 ≤ s ∧ s ≤ 256
  · obtain ⟨n, rfl⟩ : ∃ n : Nat, s = (n : Int) := ⟨s.toNat, by omega⟩
    have := pw_tab ⟨n, by omega⟩
    simp only at this
    rw [this]
    apply decide_eq_decide.2
    rw [show (256 < (n : Int)) = False from eq_false (by omega), false_or]
  · rw [decide_eq_false (by intro hh; apply hh; omega)]
    cases hp : pw s 9 with
    | false => rfl
    | true =>
      obtain ⟨i, h1, h2⟩ := pw_true hp
      have h3 : (2 : Nat) ^ i ≤ 2 ^ 8 := Nat.pow_le_pow_right (by omega) (by omega)
      have h4 : ((2 ^ i : Nat) : Int) = s := by rw [← h2]; simp
      generalize (2 : Nat) ^ i = q at h3 h4
      omega

set_option maxHeartbeats 2000000 in
theorem f12_ok (X : Ext) (L : List Frag) (n c : Nat) (ow : Bool) (sz : Nat) (σ : Heap) (hl : look σ n = some ⟨L.flatMap Frag.cells, ow, sz⟩) :
    CW Try.prog X 12 [.slice (some ⟨n, 0, none⟩) L.length c] σ fun v σ' => v = faultV (validate L) ∧ σ <+: σ' := by
  refine cw_in Try.func12 rfl Try.ntmps12 (rs := [.cell 2 27]) rfl (by kernel_rfl) (by exact Nat.le_of_ble_eq_true rfl) ?_
  have hn : n < σ.length := look_lt hl
  simp only [go_sem, ↓reduceIte, Nat.reduceEqDiff, Nat.reduceAdd, Nat.reduceMul, Nat.reduceLT, Nat.reduceLeDiff, Int.reduceLT, Int.reduceLE, Int.reduceNeg, Int.reduceAdd, Int.reduceSub, Int.reduceMul, Int.reduceToNat, Int.reduceEq, Int.reduceNe, Int.cast_ofNat_Int, Int.natCast_one, Int.natCast_zero, Int.natCast_add, reduceCtorEq]
  refine fork_dec (fun _ => ?_) (fun _ => ?_)
  · rename_i h
    simp only [go_sem, ↓reduceIte, Nat.reduceEqDiff, Nat.reduceAdd, Nat.reduceMul, Nat.reduceLT, Nat.reduceLeDiff, Int.reduceLT, Int.reduceLE, Int.reduceNeg, Int.reduceAdd, Int.reduceSub, Int.reduceMul, Int.reduceToNat, Int.reduceEq, Int.reduceNe, Int.cast_ofNat_Int, Int.natCast_one, Int.natCast_zero, Int.natCast_add, reduceCtorEq, h]
    refine (f23_ok X 2 (-1) _).mono ?_
    rintro _ _ ⟨rfl, τ, rfl⟩
    simp only [go_sem, ↓reduceIte, Nat.reduceEqDiff, Nat.reduceAdd, Nat.reduceMul, Nat.reduceLT, Nat.reduceLeDiff, Int.reduceLT, Int.reduceLE, Int.reduceNeg, Int.reduceAdd, Int.reduceSub, Int.reduceMul, Int.reduceToNat, Int.reduceEq, Int.reduceNe, Int.cast_ofNat_Int, Int.natCast_one, Int.natCast_zero, Int.natCast_add, reduceCtorEq, faultV]
    refine ⟨?_, List.prefix_append _ _⟩
    simp only [validate, if_pos (show 400 < L.length by omega)]
  · rename_i h
    simp only [go_sem, ↓reduceIte, Nat.reduceEqDiff, Nat.reduceAdd, Nat.reduceMul, Nat.reduceLT, Nat.reduceLeDiff, Int.reduceLT, Int.reduceLE, Int.reduceNeg, Int.reduceAdd, Int.reduceSub, Int.reduceMul, Int.reduceToNat, Int.reduceEq, Int.reduceNe, Int.cast_ofNat_Int, Int.natCast_one, Int.natCast_zero, Int.natCast_add, reduceCtorEq, h]
    refine LW_run (fun k T σ' => ∃ (i : Nat) (τ : Heap), i + k = L.length ∧ σ' = σ ++ some ⟨[.int .i64 0, .int .i64 0], true, 0⟩ :: τ ∧ T 0 = .slice (some ⟨n, 0, none⟩) L.length c ∧ T 2 = .pointer (some ⟨σ.length, 0, none⟩)
      ∧ T 3 = .int .i64 i ∧ fval L L.length 0 L = fval L L.length i (L.drop i)) L.length ⟨0, [], by simp, rfl, rfl, rfl, rfl, rfl⟩ ?_
    rintro k T _ ⟨i, τ, hk, rfl, h0, h2, h3, hv⟩
    simp only [go_sem, ↓reduceIte, Nat.reduceEqDiff, Nat.reduceAdd, Nat.reduceMul, Nat.reduceLT, Nat.reduceLeDiff, Int.reduceLT, Int.reduceLE, Int.reduceNeg, Int.reduceAdd, Int.reduceSub, Int.reduceMul, Int.reduceToNat, Int.reduceEq, Int.reduceNe, Int.cast_ofNat_Int, Int.natCast_one, Int.natCast_zero, Int.natCast_add, reduceCtorEq, h0, h2, h3]
    refine fork_dec (fun _ => ?_) (fun _ => ?_)
    · rename_i hi
      obtain ⟨x, hx⟩ : ∃ x, L[i]? = some x := ⟨L[i]'(by omega), List.getElem?_eq_getElem _⟩
      have hd : L.drop i = x :: L.drop (i + 1) := by rw [List.drop_eq_getElem_cons (by omega)]; congr 1; exact (List.getElem?_eq_some_iff.1 hx).2
      rw [hd, fval] at hv
      have bad : ∀ e : Int, e ≠ 0 → fragErr x L.length = e → validate L = (e, (i : Int)) := fun e he hfe => by
        rw [validate, if_neg (by omega), hv, hfe, if_pos he]
      have good : fragErr x L.length = 0 → fval L L.length 0 L = fval L L.length (i + 1) (L.drop (i + 1)) := fun hfe => by
        rw [hv, hfe, if_neg (by simp)]
      simp only [go_sem, ↓reduceIte, Nat.reduceEqDiff, Nat.reduceAdd, Nat.reduceMul, Nat.reduceLT, Nat.reduceLeDiff, Int.reduceLT, Int.reduceLE, Int.reduceNeg, Int.reduceAdd, Int.reduceSub, Int.reduceMul, Int.reduceToNat, Int.reduceEq, Int.reduceNe, Int.cast_ofNat_Int, Int.natCast_one, Int.natCast_zero, Int.natCast_add, reduceCtorEq, h0, h2, h3, hi, look_app_lt hn, hl, Frag.take x L i hx, Frag.len, show i * 6 + 6 ≤ L.length * 6 by omega, Frag.cells]
      refine (f9_ok X x.kind 1 3 _).mono ?_
      rintro _ _ ⟨rfl, rfl⟩
      simp only [go_sem, ↓reduceIte, Nat.reduceEqDiff, Nat.reduceAdd, Nat.reduceMul, Nat.reduceLT, Nat.reduceLeDiff, Int.reduceLT, Int.reduceLE, Int.reduceNeg, Int.reduceAdd, Int.reduceSub, Int.reduceMul, Int.reduceToNat, Int.reduceEq, Int.reduceNe, Int.cast_ofNat_Int, Int.natCast_one, Int.natCast_zero, Int.natCast_add, reduceCtorEq, h0, h2, h3]
      refine fork_intro (fun he => ?_) (fun he => ?_)
      · simp only [go_sem, ↓reduceIte, Nat.reduceEqDiff, Nat.reduceAdd, Nat.reduceMul, Nat.reduceLT, Nat.reduceLeDiff, Int.reduceLT, Int.reduceLE, Int.reduceNeg, Int.reduceAdd, Int.reduceSub, Int.reduceMul, Int.reduceToNat, Int.reduceEq, Int.reduceNe, Int.cast_ofNat_Int, Int.natCast_one, Int.natCast_zero, Int.natCast_add, reduceCtorEq, h0, h2, h3]
        refine (f23_ok X 4 i _).mono ?_
        rintro _ _ ⟨rfl, τ2, rfl⟩
        simp only [go_sem, ↓reduceIte, Nat.reduceEqDiff, Nat.reduceAdd, Nat.reduceMul, Nat.reduceLT, Nat.reduceLeDiff, Int.reduceLT, Int.reduceLE, Int.reduceNeg, Int.reduceAdd, Int.reduceSub, Int.reduceMul, Int.reduceToNat, Int.reduceEq, Int.reduceNe, Int.cast_ofNat_Int, Int.natCast_one, Int.natCast_zero, Int.natCast_add, reduceCtorEq, h2, faultV]
        have he2 : ¬ (1 ≤ x.kind ∧ x.kind ≤ 3) := of_decide_eq_false (by rw [Bool.not_eq_true'] at he; exact he)
        rw [bad 4 (by omega) (by unfold fragErr; rw [if_pos (by omega)])]
        exact ⟨rfl, List.prefix_append _ _⟩
      · have he2 : 1 ≤ x.kind ∧ x.kind ≤ 3 := by simpa using he
        have e1 : fragErr x L.length = if x.kind = 2 ∧ ¬ pw x.size 9 = true then 3 else if x.size < 0 ∨ 1500 < x.size then 3 else if x.kind ≠ 3 then 0
            else if x.short < 1 ∨ x.long ≤ x.short ∨ 8 < x.long ∨ x.target < 0 ∨ (L.length : Int) < x.target ∨ x.add < -1500 ∨ 1500 < x.add then 3 else 0 := by
          rw [fragErr, if_neg (by omega)]
          rw [pw_eq]
          simp only [decide_eq_true_eq, Decidable.not_not]
        rw [e1] at bad good
        simp only [go_sem, ↓reduceIte, Nat.reduceEqDiff, Nat.reduceAdd, Nat.reduceMul, Nat.reduceLT, Nat.reduceLeDiff, Int.reduceLT, Int.reduceLE, Int.reduceNeg, Int.reduceAdd, Int.reduceSub, Int.reduceMul, Int.reduceToNat, Int.reduceEq, Int.reduceNe, Int.cast_ofNat_Int, Int.natCast_one, Int.natCast_zero, Int.natCast_add, reduceCtorEq, h0, h2, h3]
        have hw1 : IntKind.i64.wrap ((i : Int) + 1) = (i : Int) + 1 := wrap64 (by omega)
        by_cases hk2 : x.kind = 2
        · simp only [go_sem, ↓reduceIte, Nat.reduceEqDiff, Nat.reduceAdd, Nat.reduceMul, Nat.reduceLT, Nat.reduceLeDiff, Int.reduceLT, Int.reduceLE, Int.reduceNeg, Int.reduceAdd, Int.reduceSub, Int.reduceMul, Int.reduceToNat, Int.reduceEq, Int.reduceNe, Int.cast_ofNat_Int, Int.natCast_one, Int.natCast_zero, Int.natCast_add, reduceCtorEq, h0, h2, h3, hk2]
          refine LW_run (fun k2 T2 σ2 => ∃ j : Nat, j + k2 = 9 ∧ σ2 = σ ++ some ⟨[.int .i64 0, .int .i64 0], true, 0⟩ :: (τ ++ [some ⟨[.int .i64 x.kind, .int .i64 x.size, .int .i64 x.short, .int .i64 x.long, .int .i64 x.target, .int .i64 x.add], true, 0⟩]) ∧ T2 0 = .slice (some ⟨n, 0, none⟩) L.length c ∧ T2 2 = .pointer (some ⟨σ.length, 0, none⟩) ∧ T2 3 = .int .i64 i
            ∧ T2 4 = .pointer (some ⟨σ.length + (τ.length + 1), 0, none⟩) ∧ T2 5 = .bool (pw x.size j) ∧ T2 6 = .int .i64 ((2 : Int) ^ j)) 9 ⟨0, rfl, by simp only [hk2], by simp only [go_sem, ↓reduceIte, Nat.reduceEqDiff, Nat.reduceAdd, Nat.reduceMul, Nat.reduceLT, Nat.reduceLeDiff, Int.reduceLT, Int.reduceLE, Int.reduceNeg, Int.reduceAdd, Int.reduceSub, Int.reduceMul, Int.reduceToNat, Int.reduceEq, Int.reduceNe, Int.cast_ofNat_Int, Int.natCast_one, Int.natCast_zero, Int.natCast_add, reduceCtorEq, h0], by simp only [go_sem, ↓reduceIte, Nat.reduceEqDiff, Nat.reduceAdd, Nat.reduceMul, Nat.reduceLT, Nat.reduceLeDiff, Int.reduceLT, Int.reduceLE, Int.reduceNeg, Int.reduceAdd, Int.reduceSub, Int.reduceMul, Int.reduceToNat, Int.reduceEq, Int.reduceNe, Int.cast_ofNat_Int, Int.natCast_one, Int.natCast_zero, Int.natCast_add, reduceCtorEq, h2], by simp only [go_sem, ↓reduceIte, Nat.reduceEqDiff, Nat.reduceAdd, Nat.reduceMul, Nat.reduceLT, Nat.reduceLeDiff, Int.reduceLT, Int.reduceLE, Int.reduceNeg, Int.reduceAdd, Int.reduceSub, Int.reduceMul, Int.reduceToNat, Int.reduceEq, Int.reduceNe, Int.cast_ofNat_Int, Int.natCast_one, Int.natCast_zero, Int.natCast_add, reduceCtorEq, h3], rfl, rfl, rfl⟩ ?_
          rintro k2 T2 _ ⟨j, hj, rfl, u0, u2, u3, u4, u5, u6⟩
          have hp1 : (2 : Int) ^ j ≤ 2 ^ 9 := by
            have : ((2 ^ j : Nat) : Int) ≤ ((2 ^ 9 : Nat) : Int) := Int.ofNat_le.2 (Nat.pow_le_pow_right (by omega) (by omega))
            simpa using this
          have hp0 : (0 : Int) < 2 ^ j := Int.pow_pos (by omega)
          have hp2 : (2 : Int) * 2 ^ j = 2 ^ (j + 1) := by rw [Int.pow_succ, Int.mul_comm]
          have hpw : pw x.size (j + 1) = (pw x.size j || decide ((2 : Int) ^ j = x.size)) := rfl
          have hp9 : 256 < (2 : Int) ^ j → j = 9 := fun hh => by
            rcases Nat.lt_or_ge j 9 with h9 | h9
            · exfalso
              have : ((2 ^ j : Nat) : Int) ≤ ((2 ^ 8 : Nat) : Int) := Int.ofNat_le.2 (Nat.pow_le_pow_right (by omega) (by omega))
              have h8 : (2 : Int) ^ j ≤ 256 := by simpa using this
              omega
            · omega
          have hp8 : (2 : Int) ^ j ≤ 256 → j < 9 := fun hh => by
            rcases Nat.lt_or_ge j 9 with h9 | h9
            · exact h9
            · have e9 : j = 9 := by omega
              subst e9
              omega
          simp only [go_sem, ↓reduceIte, Nat.reduceEqDiff, Nat.reduceAdd, Nat.reduceMul, Nat.reduceLT, Nat.reduceLeDiff, Int.reduceLT, Int.reduceLE, Int.reduceNeg, Int.reduceAdd, Int.reduceSub, Int.reduceMul, Int.reduceToNat, Int.reduceEq, Int.reduceNe, Int.cast_ofNat_Int, Int.natCast_one, Int.natCast_zero, Int.natCast_add, reduceCtorEq, u0, u2, u3, u4, u5, u6]
          refine fork_dec (fun _ => ?_) (fun _ => ?_)
          · rename_i hq
            have := hp8 hq
            simp only [go_sem, ↓reduceIte, Nat.reduceEqDiff, Nat.reduceAdd, Nat.reduceMul, Nat.reduceLT, Nat.reduceLeDiff, Int.reduceLT, Int.reduceLE, Int.reduceNeg, Int.reduceAdd, Int.reduceSub, Int.reduceMul, Int.reduceToNat, Int.reduceEq, Int.reduceNe, Int.cast_ofNat_Int, Int.natCast_one, Int.natCast_zero, Int.natCast_add, reduceCtorEq, u0, u2, u3, u4, u5, u6, hq]
            cases hb : pw x.size j with
            | true =>
              simp only [go_sem, ↓reduceIte, Nat.reduceEqDiff, Nat.reduceAdd, Nat.reduceMul, Nat.reduceLT, Nat.reduceLeDiff, Int.reduceLT, Int.reduceLE, Int.reduceNeg, Int.reduceAdd, Int.reduceSub, Int.reduceMul, Int.reduceToNat, Int.reduceEq, Int.reduceNe, Int.cast_ofNat_Int, Int.natCast_one, Int.natCast_zero, Int.natCast_add, reduceCtorEq, u0, u2, u3, u4, u5, u6, hq, hb, hp2, wrap64 (show -9223372036854775808 ≤ (2 : Int) ^ (j + 1) ∧ (2 : Int) ^ (j + 1) ≤ 9223372036854775807 by omega)]
              exact ⟨k2 - 1, by omega, j + 1, by omega, by rw [hpw, hb]; rfl, rfl⟩
            | false =>
              simp only [go_sem, ↓reduceIte, Nat.reduceEqDiff, Nat.reduceAdd, Nat.reduceMul, Nat.reduceLT, Nat.reduceLeDiff, Int.reduceLT, Int.reduceLE, Int.reduceNeg, Int.reduceAdd, Int.reduceSub, Int.reduceMul, Int.reduceToNat, Int.reduceEq, Int.reduceNe, Int.cast_ofNat_Int, Int.natCast_one, Int.natCast_zero, Int.natCast_add, reduceCtorEq, u0, u2, u3, u4, u5, u6, hq, hb, hp2, wrap64 (show -9223372036854775808 ≤ (2 : Int) ^ (j + 1) ∧ (2 : Int) ^ (j + 1) ≤ 9223372036854775807 by omega)]
              exact ⟨k2 - 1, by omega, j + 1, by omega, by rw [hpw, hb]; rfl, rfl⟩
          · rename_i hq
            have e9 := hp9 (by omega)
            subst e9
            simp only [go_sem, ↓reduceIte, Nat.reduceEqDiff, Nat.reduceAdd, Nat.reduceMul, Nat.reduceLT, Nat.reduceLeDiff, Int.reduceLT, Int.reduceLE, Int.reduceNeg, Int.reduceAdd, Int.reduceSub, Int.reduceMul, Int.reduceToNat, Int.reduceEq, Int.reduceNe, Int.cast_ofNat_Int, Int.natCast_one, Int.natCast_zero, Int.natCast_add, reduceCtorEq, u0, u2, u3, u4, u5, u6, hq]
            cases hb : pw x.size 9 with
            | false =>
              simp only [go_sem, ↓reduceIte, Nat.reduceEqDiff, Nat.reduceAdd, Nat.reduceMul, Nat.reduceLT, Nat.reduceLeDiff, Int.reduceLT, Int.reduceLE, Int.reduceNeg, Int.reduceAdd, Int.reduceSub, Int.reduceMul, Int.reduceToNat, Int.reduceEq, Int.reduceNe, Int.cast_ofNat_Int, Int.natCast_one, Int.natCast_zero, Int.natCast_add, reduceCtorEq, u0, u2, u3, u4, u5, u6, hb]
              refine (f23_ok X 3 i _).mono ?_
              rintro _ _ ⟨rfl, τ2, rfl⟩
              simp only [go_sem, ↓reduceIte, Nat.reduceEqDiff, Nat.reduceAdd, Nat.reduceMul, Nat.reduceLT, Nat.reduceLeDiff, Int.reduceLT, Int.reduceLE, Int.reduceNeg, Int.reduceAdd, Int.reduceSub, Int.reduceMul, Int.reduceToNat, Int.reduceEq, Int.reduceNe, Int.cast_ofNat_Int, Int.natCast_one, Int.natCast_zero, Int.natCast_add, reduceCtorEq, u2, faultV]
              rw [bad 3 (by omega) (by rw [if_pos (by simp [hk2, hb])])]
              exact ⟨rfl, List.prefix_append _ _⟩
            | true =>
              simp only [go_sem, ↓reduceIte, Nat.reduceEqDiff, Nat.reduceAdd, Nat.reduceMul, Nat.reduceLT, Nat.reduceLeDiff, Int.reduceLT, Int.reduceLE, Int.reduceNeg, Int.reduceAdd, Int.reduceSub, Int.reduceMul, Int.reduceToNat, Int.reduceEq, Int.reduceNe, Int.cast_ofNat_Int, Int.natCast_one, Int.natCast_zero, Int.natCast_add, reduceCtorEq, u0, u2, u3, u4, u5, u6, hb]
              refine (f9_ok X x.size 0 1500 _).mono ?_
              rintro _ _ ⟨rfl, rfl⟩
              have hsz : 0 ≤ x.size ∧ x.size ≤ 1500 := by
                rw [pw_eq] at hb
                have := of_decide_eq_true hb
                omega
              simp only [go_sem, ↓reduceIte, Nat.reduceEqDiff, Nat.reduceAdd, Nat.reduceMul, Nat.reduceLT, Nat.reduceLeDiff, Int.reduceLT, Int.reduceLE, Int.reduceNeg, Int.reduceAdd, Int.reduceSub, Int.reduceMul, Int.reduceToNat, Int.reduceEq, Int.reduceNe, Int.cast_ofNat_Int, Int.natCast_one, Int.natCast_zero, Int.natCast_add, reduceCtorEq, u0, u2, u3, u4, u5, u6, hb, hsz, hk2, hw1]
              exact ⟨k - 1, by omega, i + 1, _, by omega, rfl, rfl, good (by rw [if_neg (by simp [hb]), if_neg (by omega), if_pos (by omega)])⟩
        · rw [if_neg (fun hh => hk2 hh.1)] at bad good
          simp only [go_sem, ↓reduceIte, Nat.reduceEqDiff, Nat.reduceAdd, Nat.reduceMul, Nat.reduceLT, Nat.reduceLeDiff, Int.reduceLT, Int.reduceLE, Int.reduceNeg, Int.reduceAdd, Int.reduceSub, Int.reduceMul, Int.reduceToNat, Int.reduceEq, Int.reduceNe, Int.cast_ofNat_Int, Int.natCast_one, Int.natCast_zero, Int.natCast_add, reduceCtorEq, h0, h2, h3, hk2]
          refine (f9_ok X x.size 0 1500 _).mono ?_
          rintro _ _ ⟨rfl, rfl⟩
          by_cases hsz : 0 ≤ x.size ∧ x.size ≤ 1500
          · rw [if_neg (by omega)] at bad good
            by_cases hk3 : x.kind = 3
            · rw [if_neg (by omega)] at bad good
              have no : x.short < 1 ∨ x.long ≤ x.short ∨ 8 < x.long ∨ x.target < 0 ∨ (L.length : Int) < x.target ∨ x.add < -1500 ∨ 1500 < x.add → validate L = (3, (i : Int)) := fun hh => bad 3 (by omega) (by rw [if_pos hh])
              by_cases c1 : x.short < 1
              · simp only [go_sem, ↓reduceIte, Nat.reduceEqDiff, Nat.reduceAdd, Nat.reduceMul, Nat.reduceLT, Nat.reduceLeDiff, Int.reduceLT, Int.reduceLE, Int.reduceNeg, Int.reduceAdd, Int.reduceSub, Int.reduceMul, Int.reduceToNat, Int.reduceEq, Int.reduceNe, Int.cast_ofNat_Int, Int.natCast_one, Int.natCast_zero, Int.natCast_add, reduceCtorEq, h0, h2, h3, hsz, hk3, c1]
                refine (f23_ok X 3 i _).mono ?_
                rintro _ _ ⟨rfl, τ2, rfl⟩
                simp only [go_sem, ↓reduceIte, Nat.reduceEqDiff, Nat.reduceAdd, Nat.reduceMul, Nat.reduceLT, Nat.reduceLeDiff, Int.reduceLT, Int.reduceLE, Int.reduceNeg, Int.reduceAdd, Int.reduceSub, Int.reduceMul, Int.reduceToNat, Int.reduceEq, Int.reduceNe, Int.cast_ofNat_Int, Int.natCast_one, Int.natCast_zero, Int.natCast_add, reduceCtorEq, h2, faultV]
                rw [no (by omega)]
                exact ⟨rfl, List.prefix_append _ _⟩
              by_cases c2 : x.long ≤ x.short
              · simp only [go_sem, ↓reduceIte, Nat.reduceEqDiff, Nat.reduceAdd, Nat.reduceMul, Nat.reduceLT, Nat.reduceLeDiff, Int.reduceLT, Int.reduceLE, Int.reduceNeg, Int.reduceAdd, Int.reduceSub, Int.reduceMul, Int.reduceToNat, Int.reduceEq, Int.reduceNe, Int.cast_ofNat_Int, Int.natCast_one, Int.natCast_zero, Int.natCast_add, reduceCtorEq, h0, h2, h3, hsz, hk3, c1, c2]
                refine (f23_ok X 3 i _).mono ?_
                rintro _ _ ⟨rfl, τ2, rfl⟩
                simp only [go_sem, ↓reduceIte, Nat.reduceEqDiff, Nat.reduceAdd, Nat.reduceMul, Nat.reduceLT, Nat.reduceLeDiff, Int.reduceLT, Int.reduceLE, Int.reduceNeg, Int.reduceAdd, Int.reduceSub, Int.reduceMul, Int.reduceToNat, Int.reduceEq, Int.reduceNe, Int.cast_ofNat_Int, Int.natCast_one, Int.natCast_zero, Int.natCast_add, reduceCtorEq, h2, faultV]
                rw [no (by omega)]
                exact ⟨rfl, List.prefix_append _ _⟩
              by_cases c3 : 8 < x.long
              · simp only [go_sem, ↓reduceIte, Nat.reduceEqDiff, Nat.reduceAdd, Nat.reduceMul, Nat.reduceLT, Nat.reduceLeDiff, Int.reduceLT, Int.reduceLE, Int.reduceNeg, Int.reduceAdd, Int.reduceSub, Int.reduceMul, Int.reduceToNat, Int.reduceEq, Int.reduceNe, Int.cast_ofNat_Int, Int.natCast_one, Int.natCast_zero, Int.natCast_add, reduceCtorEq, h0, h2, h3, hsz, hk3, c1, c2, c3]
                refine (f23_ok X 3 i _).mono ?_
                rintro _ _ ⟨rfl, τ2, rfl⟩
                simp only [go_sem, ↓reduceIte, Nat.reduceEqDiff, Nat.reduceAdd, Nat.reduceMul, Nat.reduceLT, Nat.reduceLeDiff, Int.reduceLT, Int.reduceLE, Int.reduceNeg, Int.reduceAdd, Int.reduceSub, Int.reduceMul, Int.reduceToNat, Int.reduceEq, Int.reduceNe, Int.cast_ofNat_Int, Int.natCast_one, Int.natCast_zero, Int.natCast_add, reduceCtorEq, h2, faultV]
                rw [no (by omega)]
                exact ⟨rfl, List.prefix_append _ _⟩
              simp only [go_sem, ↓reduceIte, Nat.reduceEqDiff, Nat.reduceAdd, Nat.reduceMul, Nat.reduceLT, Nat.reduceLeDiff, Int.reduceLT, Int.reduceLE, Int.reduceNeg, Int.reduceAdd, Int.reduceSub, Int.reduceMul, Int.reduceToNat, Int.reduceEq, Int.reduceNe, Int.cast_ofNat_Int, Int.natCast_one, Int.natCast_zero, Int.natCast_add, reduceCtorEq, h0, h2, h3, hsz, hk3, c1, c2, c3]
              refine (f9_ok X x.target 0 L.length _).mono ?_
              rintro _ _ ⟨rfl, rfl⟩
              by_cases c4 : 0 ≤ x.target ∧ x.target ≤ (L.length : Int)
              · simp only [go_sem, ↓reduceIte, Nat.reduceEqDiff, Nat.reduceAdd, Nat.reduceMul, Nat.reduceLT, Nat.reduceLeDiff, Int.reduceLT, Int.reduceLE, Int.reduceNeg, Int.reduceAdd, Int.reduceSub, Int.reduceMul, Int.reduceToNat, Int.reduceEq, Int.reduceNe, Int.cast_ofNat_Int, Int.natCast_one, Int.natCast_zero, Int.natCast_add, reduceCtorEq, h0, h2, h3, hsz, hk3, c1, c2, c3, c4]
                refine (f9_ok X x.add (-1500) 1500 _).mono ?_
                rintro _ _ ⟨rfl, rfl⟩
                by_cases c5 : -1500 ≤ x.add ∧ x.add ≤ 1500
                · simp only [go_sem, ↓reduceIte, Nat.reduceEqDiff, Nat.reduceAdd, Nat.reduceMul, Nat.reduceLT, Nat.reduceLeDiff, Int.reduceLT, Int.reduceLE, Int.reduceNeg, Int.reduceAdd, Int.reduceSub, Int.reduceMul, Int.reduceToNat, Int.reduceEq, Int.reduceNe, Int.cast_ofNat_Int, Int.natCast_one, Int.natCast_zero, Int.natCast_add, reduceCtorEq, h0, h2, h3, hsz, hk3, c1, c2, c3, c4, c5, hw1]
                  exact ⟨k - 1, by omega, i + 1, _, by omega, rfl, rfl, good (by rw [if_neg (by omega)])⟩
                · simp only [go_sem, ↓reduceIte, Nat.reduceEqDiff, Nat.reduceAdd, Nat.reduceMul, Nat.reduceLT, Nat.reduceLeDiff, Int.reduceLT, Int.reduceLE, Int.reduceNeg, Int.reduceAdd, Int.reduceSub, Int.reduceMul, Int.reduceToNat, Int.reduceEq, Int.reduceNe, Int.cast_ofNat_Int, Int.natCast_one, Int.natCast_zero, Int.natCast_add, reduceCtorEq, h0, h2, h3, hsz, hk3, c1, c2, c3, c4, c5]
                  refine (f23_ok X 3 i _).mono ?_
                  rintro _ _ ⟨rfl, τ2, rfl⟩
                  simp only [go_sem, ↓reduceIte, Nat.reduceEqDiff, Nat.reduceAdd, Nat.reduceMul, Nat.reduceLT, Nat.reduceLeDiff, Int.reduceLT, Int.reduceLE, Int.reduceNeg, Int.reduceAdd, Int.reduceSub, Int.reduceMul, Int.reduceToNat, Int.reduceEq, Int.reduceNe, Int.cast_ofNat_Int, Int.natCast_one, Int.natCast_zero, Int.natCast_add, reduceCtorEq, h2, faultV]
                  rw [no (by omega)]
                  exact ⟨rfl, List.prefix_append _ _⟩
              · simp only [go_sem, ↓reduceIte, Nat.reduceEqDiff, Nat.reduceAdd, Nat.reduceMul, Nat.reduceLT, Nat.reduceLeDiff, Int.reduceLT, Int.reduceLE, Int.reduceNeg, Int.reduceAdd, Int.reduceSub, Int.reduceMul, Int.reduceToNat, Int.reduceEq, Int.reduceNe, Int.cast_ofNat_Int, Int.natCast_one, Int.natCast_zero, Int.natCast_add, reduceCtorEq, h0, h2, h3, hsz, hk3, c1, c2, c3, c4]
                refine (f23_ok X 3 i _).mono ?_
                rintro _ _ ⟨rfl, τ2, rfl⟩
                simp only [go_sem, ↓reduceIte, Nat.reduceEqDiff, Nat.reduceAdd, Nat.reduceMul, Nat.reduceLT, Nat.reduceLeDiff, Int.reduceLT, Int.reduceLE, Int.reduceNeg, Int.reduceAdd, Int.reduceSub, Int.reduceMul, Int.reduceToNat, Int.reduceEq, Int.reduceNe, Int.cast_ofNat_Int, Int.natCast_one, Int.natCast_zero, Int.natCast_add, reduceCtorEq, h2, faultV]
                rw [no (by omega)]
                exact ⟨rfl, List.prefix_append _ _⟩
            · simp only [go_sem, ↓reduceIte, Nat.reduceEqDiff, Nat.reduceAdd, Nat.reduceMul, Nat.reduceLT, Nat.reduceLeDiff, Int.reduceLT, Int.reduceLE, Int.reduceNeg, Int.reduceAdd, Int.reduceSub, Int.reduceMul, Int.reduceToNat, Int.reduceEq, Int.reduceNe, Int.cast_ofNat_Int, Int.natCast_one, Int.natCast_zero, Int.natCast_add, reduceCtorEq, h0, h2, h3, hsz, hk3, hw1]
              exact ⟨k - 1, by omega, i + 1, _, by omega, rfl, rfl, good (by rw [if_pos hk3])⟩
          · simp only [go_sem, ↓reduceIte, Nat.reduceEqDiff, Nat.reduceAdd, Nat.reduceMul, Nat.reduceLT, Nat.reduceLeDiff, Int.reduceLT, Int.reduceLE, Int.reduceNeg, Int.reduceAdd, Int.reduceSub, Int.reduceMul, Int.reduceToNat, Int.reduceEq, Int.reduceNe, Int.cast_ofNat_Int, Int.natCast_one, Int.natCast_zero, Int.natCast_add, reduceCtorEq, h0, h2, h3, hsz]
            refine (f23_ok X 3 i _).mono ?_
            rintro _ _ ⟨rfl, τ2, rfl⟩
            simp only [go_sem, ↓reduceIte, Nat.reduceEqDiff, Nat.reduceAdd, Nat.reduceMul, Nat.reduceLT, Nat.reduceLeDiff, Int.reduceLT, Int.reduceLE, Int.reduceNeg, Int.reduceAdd, Int.reduceSub, Int.reduceMul, Int.reduceToNat, Int.reduceEq, Int.reduceNe, Int.cast_ofNat_Int, Int.natCast_one, Int.natCast_zero, Int.natCast_add, reduceCtorEq, h2, faultV]
            rw [bad 3 (by omega) (by rw [if_pos (by omega)])]
            exact ⟨rfl, List.prefix_append _ _⟩
    · rename_i hi
      simp only [go_sem, ↓reduceIte, Nat.reduceEqDiff, Nat.reduceAdd, Nat.reduceMul, Nat.reduceLT, Nat.reduceLeDiff, Int.reduceLT, Int.reduceLE, Int.reduceNeg, Int.reduceAdd, Int.reduceSub, Int.reduceMul, Int.reduceToNat, Int.reduceEq, Int.reduceNe, Int.cast_ofNat_Int, Int.natCast_one, Int.natCast_zero, Int.natCast_add, reduceCtorEq, h0, h2, h3, hi]
      refine ⟨?_, List.prefix_append _ _⟩
      rw [validate, if_neg (by omega), hv, show L.drop i = [] from List.drop_eq_nil_of_le (by omega)]
      rfl

set_option maxHeartbeats 1000000 in
theorem f24_ok (X : Ext) (L : List Frag) (O : List Int) (i : Nat) (x : Frag) (t : Nat) (a b : Int) (n c m d len : Nat) (ow ow' : Bool) (sz sz' : Nat) (σ : Heap) (hl : look σ n = some ⟨L.flatMap Frag.cells, ow, sz⟩) (hb : look σ m = some ⟨O.map (.int .i64), ow', sz'⟩)
    (hlen : len = O.length) (hi : i ≤ 100000) (hx : L[i]? = some x) (ht : x.target = t) (ha : O[t]? = some a) (hbb : O[i + 1]? = some b) (h1 : -1000000 ≤ a ∧ a ≤ 1000000) (h2 : -1000000 ≤ b ∧ b ≤ 1000000) (h3 : -1000000 ≤ x.add ∧ x.add ≤ 1000000) :
    CW Try.prog X 24 [.slice (some ⟨n, 0, none⟩) L.length c, .slice (some ⟨m, 0, none⟩) len d, .int .i64 i] σ fun v σ' => v = .bool (decide (-128 ≤ a + x.add - b ∧ a + x.add - b ≤ 127)) ∧ σ <+: σ' := by
  subst hlen
  have hiL : i < L.length := (List.getElem?_eq_some_iff.1 hx).1
  have htO : t < O.length := (List.getElem?_eq_some_iff.1 ha).1
  have hbO : i + 1 < O.length := (List.getElem?_eq_some_iff.1 hbb).1
  refine cw_in Try.func24 rfl Try.ntmps24 (rs := [.tmp 6]) rfl (by kernel_rfl) (by exact Nat.le_of_ble_eq_true rfl) ?_
  simp only [go_sem, ↓reduceIte, Nat.reduceEqDiff, Nat.reduceAdd, Nat.reduceMul, Nat.reduceLT, Nat.reduceLeDiff, Int.reduceLT, Int.reduceLE, Int.reduceNeg, Int.reduceAdd, Int.reduceSub, Int.reduceMul, Int.reduceToNat, Int.reduceEq, Int.reduceNe, Int.cast_ofNat_Int, Int.natCast_one, Int.natCast_zero, Int.natCast_add, reduceCtorEq, hl, hb, show (i : Int) < L.length by omega, show 0 ≤ (i : Int) + 1 ∧ (i : Int) + 1 < O.length by omega, show ((i : Int) + 1).toNat = i + 1 by omega, show (t : Int) < O.length by omega, Frag.get x L i 4 hx (by omega), Frag.get x L i 5 hx (by omega), Frag.cells, ht, List.getElem?_map, ha, hbb,
    wrap64 (show -9223372036854775808 ≤ (i : Int) + 1 ∧ (i : Int) + 1 ≤ 9223372036854775807 by omega), wrap64 (show -9223372036854775808 ≤ a + x.add ∧ a + x.add ≤ 9223372036854775807 by omega), wrap64 (show -9223372036854775808 ≤ a + x.add - b ∧ a + x.add - b ≤ 9223372036854775807 by omega)]
  refine (f9_ok X _ (-128) 127 _).mono ?_
  rintro _ _ ⟨rfl, rfl⟩
  simp only [go_sem, ↓reduceIte, Nat.reduceEqDiff, Nat.reduceAdd, Nat.reduceMul, Nat.reduceLT, Nat.reduceLeDiff, Int.reduceLT, Int.reduceLE, Int.reduceNeg, Int.reduceAdd, Int.reduceSub, Int.reduceMul, Int.reduceToNat, Int.reduceEq, Int.reduceNe, Int.cast_ofNat_Int, Int.natCast_one, Int.natCast_zero, Int.natCast_add, reduceCtorEq]
  exact List.prefix_rfl
theorem f24_far (X : Ext) (L : List Frag) (A : List Bool) (i : Nat) (x : Frag) (n c m d len : Nat) (ow ow' : Bool) (sz sz' : Nat) (σ : Heap) (hl : look σ n = some ⟨L.flatMap Frag.cells, ow, sz⟩) (hb : look σ m = some ⟨(offsTo L A L.length).1.map (.int .i64), ow', sz'⟩)
    (hlen : len = L.length + 1) (hx : L[i]? = some x) (hk : x.kind = 3) (hL : ∀ x ∈ L, x.fine) (hV : fragErr x L.length = 0) (h4 : L.length ≤ 400) :
    CW Try.prog X 24 [.slice (some ⟨n, 0, none⟩) L.length c, .slice (some ⟨m, 0, none⟩) len d, .int .i64 i] σ fun v σ' => v = .bool (!far L A x i) ∧ σ <+: σ' := by
  have hi : i < L.length := (List.getElem?_eq_some_iff.1 hx).1
  obtain ⟨b1, b2, b3, b4⟩ := fragErr_branch hV hk
  have e1 := offsTo_bound L A hL x.target.toNat
  have e2 := offsTo_bound L A hL (i + 1)
  refine (f24_ok X L _ i x x.target.toNat (offsTo L A x.target.toNat).2 (offsTo L A (i + 1)).2 n c m d len ow ow' sz sz' σ hl hb (by rw [hlen, offsTo_len L A _ (Nat.le_refl _)]) (by omega) hx (by omega)
    (offsTo_get L A _ _ (by omega) (Nat.le_refl _)) (offsTo_get L A _ _ (by omega) (Nat.le_refl _)) ?_ ?_ ?_).mono ?_
  · omega
  · omega
  · omega
  · rintro _ σ' ⟨rfl, h⟩
    refine ⟨congrArg _ ?_, h⟩
    unfold far dist
    by_cases q1 : (offsTo L A x.target.toNat).2 + x.add - (offsTo L A (i + 1)).2 < -128 <;> by_cases q2 : 127 < (offsTo L A x.target.toNat).2 + x.add - (offsTo L A (i + 1)).2 <;> simp [q1, q2] <;> omega

set_option maxHeartbeats 2000000 in
theorem f13_ok (X : Ext) (L : List Frag) (n c : Nat) (ow : Bool) (sz : Nat) (σ : Heap) (hl : look σ n = some ⟨L.flatMap Frag.cells, ow, sz⟩) (h0 : (validate L).1 = 0) :
    CW Try.prog X 13 [.slice (some ⟨n, 0, none⟩) L.length c] σ fun v σ' => ∃ p c' m, v = .slice (some ⟨p, 0, none⟩) L.length c' ∧ σ.length ≤ p ∧ σ <+: σ' ∧ look σ' p = some ⟨(iter L m).map .bool, true, 1⟩ ∧ iter L (m + 1) = iter L m := by
  obtain ⟨h4, hL, h00⟩ := validate_fine h0
  have hV : ∀ x ∈ L, fragErr x L.length = 0 := by
    unfold validate at h0
    rw [if_neg (by omega)] at h0
    exact fval_fine L _ L 0 h0
  refine cw_in Try.func13 rfl Try.ntmps13 (rs := [.tmp 2]) rfl (by kernel_rfl) (by exact Nat.le_of_ble_eq_true rfl) ?_
  have hn : n < σ.length := look_lt hl
  have hw : (L.length : Int) ≤ 140737488355328 := by omega
  have hw1 : (L.length : Int) * 1 ≤ 140737488355328 := by omega
  simp only [go_sem, ↓reduceIte, Nat.reduceEqDiff, Nat.reduceAdd, Nat.reduceMul, Nat.reduceLT, Nat.reduceLeDiff, Int.reduceLT, Int.reduceLE, Int.reduceNeg, Int.reduceAdd, Int.reduceSub, Int.reduceMul, Int.reduceToNat, Int.reduceEq, Int.reduceNe, Int.cast_ofNat_Int, Int.natCast_one, Int.natCast_zero, Int.natCast_add, reduceCtorEq, hw, hw1, flat_false]
  refine LW_run (fun k T ρ => ∃ m g, σ <+: ρ ∧ T 0 = .slice (some ⟨n, 0, none⟩) L.length c ∧ T 3 = .slice (some ⟨σ.length, 0, none⟩) L.length L.length ∧ T 4 = .bool g ∧ look ρ σ.length = some ⟨(iter L m).map .bool, true, 1⟩ ∧ (g = false → iter L (m + 1) = iter L m) ∧ k = if g = true then lows (iter L m) + 1 else 0) (lows (iter L 0) + 1) ⟨0, true, List.prefix_append _ _, rfl, rfl, rfl, by rw [look_app_new, look_zero]; rfl, by simp, rfl⟩ ?_
  rintro k T ρ ⟨m, g, hp, t0, t3, t4, hA, hg, rfl⟩
  simp only [go_sem, ↓reduceIte, Nat.reduceEqDiff, Nat.reduceAdd, Nat.reduceMul, Nat.reduceLT, Nat.reduceLeDiff, Int.reduceLT, Int.reduceLE, Int.reduceNeg, Int.reduceAdd, Int.reduceSub, Int.reduceMul, Int.reduceToNat, Int.reduceEq, Int.reduceNe, Int.cast_ofNat_Int, Int.natCast_one, Int.natCast_zero, Int.natCast_add, reduceCtorEq, t0, t3, t4]
  cases g with
  | false =>
    simp only [go_sem, ↓reduceIte, Nat.reduceEqDiff, Nat.reduceAdd, Nat.reduceMul, Nat.reduceLT, Nat.reduceLeDiff, Int.reduceLT, Int.reduceLE, Int.reduceNeg, Int.reduceAdd, Int.reduceSub, Int.reduceMul, Int.reduceToNat, Int.reduceEq, Int.reduceNe, Int.cast_ofNat_Int, Int.natCast_one, Int.natCast_zero, Int.natCast_add, reduceCtorEq, t0, t3, t4]
    exact ⟨_, _, m, rfl, Nat.le_refl _, hp, hA, hg rfl⟩
  | true =>
    have hlA := iter_len L m
    have hst : stepTo L (iter L m) L.length = iter L (m + 1) := rfl
    generalize hAA : iter L m = A at *
    simp only [go_sem, ↓reduceIte, Nat.reduceEqDiff, Nat.reduceAdd, Nat.reduceMul, Nat.reduceLT, Nat.reduceLeDiff, Int.reduceLT, Int.reduceLE, Int.reduceNeg, Int.reduceAdd, Int.reduceSub, Int.reduceMul, Int.reduceToNat, Int.reduceEq, Int.reduceNe, Int.cast_ofNat_Int, Int.natCast_one, Int.natCast_zero, Int.natCast_add, reduceCtorEq, t0, t3, t4]
    refine (f16_ok X L A n c σ.length L.length _ ow true sz 1 ρ (look_prefix hp hl) hA hL h4 hlA.symm hlA).mono ?_
    rintro _ ρ1 ⟨po, co, rfl, hpo, hp1, hO⟩
    simp only [go_sem, ↓reduceIte, Nat.reduceEqDiff, Nat.reduceAdd, Nat.reduceMul, Nat.reduceLT, Nat.reduceLeDiff, Int.reduceLT, Int.reduceLE, Int.reduceNeg, Int.reduceAdd, Int.reduceSub, Int.reduceMul, Int.reduceToNat, Int.reduceEq, Int.reduceNe, Int.cast_ofNat_Int, Int.natCast_one, Int.natCast_zero, Int.natCast_add, reduceCtorEq, t0, t3, t4]
    have d1 : σ.length < ρ.length := look_lt hA
    have l1 := hp1.length_le
    refine LW_run (fun k2 T2 ρ' => ∃ (i : Nat) (g2 : Bool), i + k2 = L.length ∧ σ <+: ρ' ∧ T2 0 = .slice (some ⟨n, 0, none⟩) L.length c ∧ T2 3 = .slice (some ⟨σ.length, 0, none⟩) L.length L.length ∧ T2 4 = .bool g2 ∧ T2 5 = .slice (some ⟨po, 0, none⟩) (L.length + 1) co ∧ T2 6 = .int .i64 i
      ∧ look ρ' σ.length = some ⟨(stepTo L A i).map .bool, true, 1⟩ ∧ look ρ' po = some ⟨(offsTo L A L.length).1.map (.int .i64), true, 1⟩ ∧ (g2 = false → stepTo L A i = A) ∧ (g2 = true → lows (stepTo L A i) < lows A)) L.length
      ⟨0, false, by simp, hp.trans hp1, by simp only [go_sem, ↓reduceIte, Nat.reduceEqDiff, Nat.reduceAdd, Nat.reduceMul, Nat.reduceLT, Nat.reduceLeDiff, Int.reduceLT, Int.reduceLE, Int.reduceNeg, Int.reduceAdd, Int.reduceSub, Int.reduceMul, Int.reduceToNat, Int.reduceEq, Int.reduceNe, Int.cast_ofNat_Int, Int.natCast_one, Int.natCast_zero, Int.natCast_add, reduceCtorEq, t0], by simp only [go_sem, ↓reduceIte, Nat.reduceEqDiff, Nat.reduceAdd, Nat.reduceMul, Nat.reduceLT, Nat.reduceLeDiff, Int.reduceLT, Int.reduceLE, Int.reduceNeg, Int.reduceAdd, Int.reduceSub, Int.reduceMul, Int.reduceToNat, Int.reduceEq, Int.reduceNe, Int.cast_ofNat_Int, Int.natCast_one, Int.natCast_zero, Int.natCast_add, reduceCtorEq, t3], rfl, rfl, rfl, look_prefix hp1 hA, hO, fun _ => rfl, by simp⟩ ?_
    rintro k2 T2 ρ3 ⟨i, g2, hk, hs3, u0, u3, u4, u5, u6, hA3, hO3, hg1, hg2⟩
    simp only [go_sem, ↓reduceIte, Nat.reduceEqDiff, Nat.reduceAdd, Nat.reduceMul, Nat.reduceLT, Nat.reduceLeDiff, Int.reduceLT, Int.reduceLE, Int.reduceNeg, Int.reduceAdd, Int.reduceSub, Int.reduceMul, Int.reduceToNat, Int.reduceEq, Int.reduceNe, Int.cast_ofNat_Int, Int.natCast_one, Int.natCast_zero, Int.natCast_add, reduceCtorEq, u0, u3, u4, u5, u6]
    refine fork_dec (fun _ => ?_) (fun _ => ?_)
    · rename_i hi
      obtain ⟨x, hx⟩ : ∃ x, L[i]? = some x := ⟨L[i]'(by omega), List.getElem?_eq_getElem _⟩
      obtain ⟨b, hb⟩ : ∃ b, A[i]? = some b := ⟨A[i]'(by omega), List.getElem?_eq_getElem _⟩
      have e1 := look_lt hA3
      have e2 := look_lt hO3
      have hn3 : n < ρ3.length := Nat.lt_of_lt_of_le hn hs3.length_le
      have hl3 := look_prefix hs3 hl
      have hls : (stepTo L A i).length = L.length := by rw [stepTo_len, hlA]
      have hbs : (stepTo L A i)[i]? = some b := (stepTo_later L A i i (Nat.le_refl _)).trans hb
      have g0 : (L.flatMap Frag.cells)[i * 6]? = x.cells[0]? := by simpa using Frag.get x L i 0 hx (by omega)
      have hw2 : IntKind.i64.wrap ((i : Int) + 1) = (i : Int) + 1 := wrap64 (by omega)
      have hpe : po ≠ σ.length := by omega
      by_cases hk3 : x.kind = 3
      · have hstp : stepTo L A (i + 1) = (stepTo L A i).set i (b || far L A x i) := by
          rw [stepTo, hx]
          simp [hk3, hb]
        cases b with
        | true =>
          rw [Bool.true_or, set_same hbs] at hstp
          simp only [go_sem, ↓reduceIte, Nat.reduceEqDiff, Nat.reduceAdd, Nat.reduceMul, Nat.reduceLT, Nat.reduceLeDiff, Int.reduceLT, Int.reduceLE, Int.reduceNeg, Int.reduceAdd, Int.reduceSub, Int.reduceMul, Int.reduceToNat, Int.reduceEq, Int.reduceNe, Int.cast_ofNat_Int, Int.natCast_one, Int.natCast_zero, Int.natCast_add, reduceCtorEq, u0, u3, u4, u5, u6, hi, hl3, g0, Frag.cells, hk3, hA3, List.getElem?_map, hbs, hw2]
          exact ⟨k2 - 1, by omega, i + 1, g2, by omega, hs3, rfl, rfl, by rw [hstp], hO3, by rw [hstp]; exact hg1, by rw [hstp]; exact hg2⟩
        | false =>
          rw [Bool.false_or] at hstp
          simp only [go_sem, ↓reduceIte, Nat.reduceEqDiff, Nat.reduceAdd, Nat.reduceMul, Nat.reduceLT, Nat.reduceLeDiff, Int.reduceLT, Int.reduceLE, Int.reduceNeg, Int.reduceAdd, Int.reduceSub, Int.reduceMul, Int.reduceToNat, Int.reduceEq, Int.reduceNe, Int.cast_ofNat_Int, Int.natCast_one, Int.natCast_zero, Int.natCast_add, reduceCtorEq, u0, u3, u4, u5, u6, hi, hl3, g0, Frag.cells, hk3, hA3, List.getElem?_map, hbs]
          refine (f24_far X L A i x n c po co _ ow true sz 1 _ hl3 hO3 rfl hx hk3 hL (hV x (List.mem_of_getElem? hx)) h4).mono ?_
          rintro _ _ ⟨rfl, τ, rfl⟩
          cases hf : far L A x i with
          | false =>
            rw [hf, set_same hbs] at hstp
            simp only [go_sem, ↓reduceIte, Nat.reduceEqDiff, Nat.reduceAdd, Nat.reduceMul, Nat.reduceLT, Nat.reduceLeDiff, Int.reduceLT, Int.reduceLE, Int.reduceNeg, Int.reduceAdd, Int.reduceSub, Int.reduceMul, Int.reduceToNat, Int.reduceEq, Int.reduceNe, Int.cast_ofNat_Int, Int.natCast_one, Int.natCast_zero, Int.natCast_add, reduceCtorEq, u0, u3, u4, u5, u6, hi, hf, hw2]
            exact ⟨k2 - 1, by omega, i + 1, g2, by omega, hs3.trans (List.prefix_append _ _), rfl, rfl, by rw [hstp]; exact (look_app_lt e1).trans hA3, (look_app_lt e2).trans hO3, by rw [hstp]; exact hg1, by rw [hstp]; exact hg2⟩
          | true =>
            rw [hf] at hstp
            simp only [go_sem, ↓reduceIte, Nat.reduceEqDiff, Nat.reduceAdd, Nat.reduceMul, Nat.reduceLT, Nat.reduceLeDiff, Int.reduceLT, Int.reduceLE, Int.reduceNeg, Int.reduceAdd, Int.reduceSub, Int.reduceMul, Int.reduceToNat, Int.reduceEq, Int.reduceNe, Int.cast_ofNat_Int, Int.natCast_one, Int.natCast_zero, Int.natCast_add, reduceCtorEq, u0, u3, u4, u5, u6, hi, hf, hw2, look_app_lt e1, hA3, set_app_lt e1, List.length_map, hls, show i + 1 ≤ L.length by omega]
            have h1 := lows_set (stepTo L A i) i true hbs
            rw [if_pos rfl, ← hstp] at h1
            have h2 : 0 < lows (stepTo L A i) := List.countP_pos_iff.2 ⟨false, List.mem_of_getElem? hbs, rfl⟩
            have h3 : lows (stepTo L A i) ≤ lows A := by
              rcases stepTo_lows L A i (by omega) with e | e
              · rw [e]; exact Nat.le_refl _
              · omega
            exact ⟨k2 - 1, by omega, i + 1, true, by omega, (prefix_set hs3 (Nat.le_refl _)).trans (List.prefix_append _ _), rfl, rfl, by rw [look_app_lt (by rw [List.length_set]; exact e1), look_set e1, if_pos rfl, hstp, List.map_set], by rw [look_app_lt (by rw [List.length_set]; exact e2), look_set e1, if_neg hpe]; exact hO3, by simp, fun _ => by omega⟩
      · have hstp : stepTo L A (i + 1) = stepTo L A i := by
          rw [stepTo, hx]
          simp only [hk3, if_false]
        simp only [go_sem, ↓reduceIte, Nat.reduceEqDiff, Nat.reduceAdd, Nat.reduceMul, Nat.reduceLT, Nat.reduceLeDiff, Int.reduceLT, Int.reduceLE, Int.reduceNeg, Int.reduceAdd, Int.reduceSub, Int.reduceMul, Int.reduceToNat, Int.reduceEq, Int.reduceNe, Int.cast_ofNat_Int, Int.natCast_one, Int.natCast_zero, Int.natCast_add, reduceCtorEq, u0, u3, u4, u5, u6, hi, hl3, g0, Frag.cells, hk3, hw2]
        exact ⟨k2 - 1, by omega, i + 1, g2, by omega, hs3, rfl, rfl, by rw [hstp]; exact hA3, hO3, by rw [hstp]; exact hg1, by rw [hstp]; exact hg2⟩
    · rename_i hi
      have hie : i = L.length := by omega
      subst hie
      simp only [go_sem, ↓reduceIte, Nat.reduceEqDiff, Nat.reduceAdd, Nat.reduceMul, Nat.reduceLT, Nat.reduceLeDiff, Int.reduceLT, Int.reduceLE, Int.reduceNeg, Int.reduceAdd, Int.reduceSub, Int.reduceMul, Int.reduceToNat, Int.reduceEq, Int.reduceNe, Int.cast_ofNat_Int, Int.natCast_one, Int.natCast_zero, Int.natCast_add, reduceCtorEq, u0, u3, u4, u5, u6, hi]
      cases g2 with
      | false =>
        have e := hg1 rfl
        exact ⟨0, by simp, m, false, hs3, rfl, by rw [hAA]; rw [e] at hA3; exact hA3, fun _ => by rw [← hst, hAA]; exact e, rfl⟩
      | true =>
        refine ⟨lows (iter L (m + 1)) + 1, ?_, m + 1, true, hs3, rfl, by rw [← hst]; exact hA3, by simp, rfl⟩
        have := hg2 rfl
        rw [← hst]
        show lows _ + 1 < lows A + 1
        omega
end Go.Proofs.Ytcjhgnbkdiopkaa.Abs
