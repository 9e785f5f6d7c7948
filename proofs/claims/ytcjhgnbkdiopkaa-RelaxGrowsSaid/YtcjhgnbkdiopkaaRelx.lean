import Derived.Test.YtcjhgnbkdiopkaaAlig
namespace Go.Proofs.Ytcjhgnbkdiopkaa.Abs
open Go Go.RowKit
set_option linter.unusedVariables false
set_option linter.unusedSimpArgs false
set_option maxRecDepth 100000

set_option maxHeartbeats 1000000 in
theorem f14_ok (X : Ext) (A B : List Bool) (n c m d la lb : Nat) (ow ow' : Bool) (sz sz' : Nat) (σ : Heap) (ha : look σ n = some ⟨A.map .bool, ow, sz⟩) (hb : look σ m = some ⟨B.map .bool, ow', sz'⟩) (hla : la = A.length) (hlb : lb = B.length) (hA : A.length ≤ 1000000) :
    CW Try.prog X 14 [.slice (some ⟨n, 0, none⟩) la c, .slice (some ⟨m, 0, none⟩) lb d] σ fun v σ' => v = .bool (decide (A = B)) ∧ σ' = σ := by
  subst hla; subst hlb
  refine cw_in Try.func14 rfl Try.ntmps14 (rs := [.tmp 4]) rfl (by kernel_rfl) (by exact Nat.le_of_ble_eq_true rfl) ?_
  simp only [go_sem, ↓reduceIte, Nat.reduceEqDiff, Nat.reduceAdd, Nat.reduceMul, Nat.reduceLT, Nat.reduceLeDiff, Int.reduceLT, Int.reduceLE, Int.reduceNeg, Int.reduceAdd, Int.reduceSub, Int.reduceMul, Int.reduceToNat, Int.reduceEq, Int.reduceNe, Int.cast_ofNat_Int, Int.natCast_one, Int.natCast_zero, Int.natCast_add, reduceCtorEq]
  refine fork_dec (fun _ => ?_) (fun _ => ?_)
  · rename_i h
    simp only [go_sem, ↓reduceIte, Nat.reduceEqDiff, Nat.reduceAdd, Nat.reduceMul, Nat.reduceLT, Nat.reduceLeDiff, Int.reduceLT, Int.reduceLE, Int.reduceNeg, Int.reduceAdd, Int.reduceSub, Int.reduceMul, Int.reduceToNat, Int.reduceEq, Int.reduceNe, Int.cast_ofNat_Int, Int.natCast_one, Int.natCast_zero, Int.natCast_add, reduceCtorEq, h]
    refine congrArg _ (Eq.symm (decide_eq_false fun e => h (by rw [e])))
  · rename_i h
    simp only [go_sem, ↓reduceIte, Nat.reduceEqDiff, Nat.reduceAdd, Nat.reduceMul, Nat.reduceLT, Nat.reduceLeDiff, Int.reduceLT, Int.reduceLE, Int.reduceNeg, Int.reduceAdd, Int.reduceSub, Int.reduceMul, Int.reduceToNat, Int.reduceEq, Int.reduceNe, Int.cast_ofNat_Int, Int.natCast_one, Int.natCast_zero, Int.natCast_add, reduceCtorEq, h]
    have hlen : A.length = B.length := by omega
    refine LW_run (fun k T σ' => ∃ i : Nat, i + k = A.length ∧ σ' = σ ∧ T 0 = .slice (some ⟨n, 0, none⟩) A.length c ∧ T 1 = .slice (some ⟨m, 0, none⟩) B.length d ∧ T 5 = .int .i64 i ∧ A.take i = B.take i) A.length ⟨0, by simp, rfl, rfl, rfl, rfl, rfl⟩ ?_
    rintro k T _ ⟨i, hk, rfl, h0, h1, h5, hv⟩
    simp only [go_sem, ↓reduceIte, Nat.reduceEqDiff, Nat.reduceAdd, Nat.reduceMul, Nat.reduceLT, Nat.reduceLeDiff, Int.reduceLT, Int.reduceLE, Int.reduceNeg, Int.reduceAdd, Int.reduceSub, Int.reduceMul, Int.reduceToNat, Int.reduceEq, Int.reduceNe, Int.cast_ofNat_Int, Int.natCast_one, Int.natCast_zero, Int.natCast_add, reduceCtorEq, h0, h1, h5]
    refine fork_dec (fun _ => ?_) (fun _ => ?_)
    · rename_i hi
      obtain ⟨x, hx⟩ : ∃ x, A[i]? = some x := ⟨A[i]'(by omega), List.getElem?_eq_getElem _⟩
      obtain ⟨y, hy⟩ : ∃ y, B[i]? = some y := ⟨B[i]'(by omega), List.getElem?_eq_getElem _⟩
      simp only [go_sem, ↓reduceIte, Nat.reduceEqDiff, Nat.reduceAdd, Nat.reduceMul, Nat.reduceLT, Nat.reduceLeDiff, Int.reduceLT, Int.reduceLE, Int.reduceNeg, Int.reduceAdd, Int.reduceSub, Int.reduceMul, Int.reduceToNat, Int.reduceEq, Int.reduceNe, Int.cast_ofNat_Int, Int.natCast_one, Int.natCast_zero, Int.natCast_add, reduceCtorEq, h0, h1, h5, hi, show (i : Int) < B.length by omega, ha, hb, List.getElem?_map, hx, hy]
      refine fork_intro (fun he => ?_) (fun he => ?_)
      · simp only [go_sem, ↓reduceIte, Nat.reduceEqDiff, Nat.reduceAdd, Nat.reduceMul, Nat.reduceLT, Nat.reduceLeDiff, Int.reduceLT, Int.reduceLE, Int.reduceNeg, Int.reduceAdd, Int.reduceSub, Int.reduceMul, Int.reduceToNat, Int.reduceEq, Int.reduceNe, Int.cast_ofNat_Int, Int.natCast_one, Int.natCast_zero, Int.natCast_add, reduceCtorEq, he]
        refine congrArg _ (Eq.symm (decide_eq_false fun e => ?_))
        rw [e, hy] at hx
        simp [Option.some.inj hx] at he
      · simp only [go_sem, ↓reduceIte, Nat.reduceEqDiff, Nat.reduceAdd, Nat.reduceMul, Nat.reduceLT, Nat.reduceLeDiff, Int.reduceLT, Int.reduceLE, Int.reduceNeg, Int.reduceAdd, Int.reduceSub, Int.reduceMul, Int.reduceToNat, Int.reduceEq, Int.reduceNe, Int.cast_ofNat_Int, Int.natCast_one, Int.natCast_zero, Int.natCast_add, reduceCtorEq, h0, h1, h5, he, wrap64 (show -9223372036854775808 ≤ (i : Int) + 1 ∧ (i : Int) + 1 ≤ 9223372036854775807 by omega)]
        refine ⟨k - 1, by omega, i + 1, by omega, rfl, ?_⟩
        have hxy : x = y := by simpa using he
        rw [List.take_add_one, List.take_add_one, hv, hx, hy, hxy]
    · rename_i hi
      simp only [go_sem, ↓reduceIte, Nat.reduceEqDiff, Nat.reduceAdd, Nat.reduceMul, Nat.reduceLT, Nat.reduceLeDiff, Int.reduceLT, Int.reduceLE, Int.reduceNeg, Int.reduceAdd, Int.reduceSub, Int.reduceMul, Int.reduceToNat, Int.reduceEq, Int.reduceNe, Int.cast_ofNat_Int, Int.natCast_one, Int.natCast_zero, Int.natCast_add, reduceCtorEq, h0, h1, h5, hi]
      refine congrArg _ (Eq.symm (decide_eq_true ?_))
      have e : i = A.length := by omega
      rw [List.take_of_length_le (by omega), List.take_of_length_le (by omega)] at hv
      exact hv

theorem f27_ok (X : Ext) (A : List Bool) (n c la : Nat) (ow : Bool) (sz : Nat) (σ : Heap) (ha : look σ n = some ⟨A.map .bool, ow, sz⟩) (hla : la = A.length) (hc : la = 0 → c = 0) (hA : A.length ≤ 1000000) :
    CW Try.prog X 27 [.slice (some ⟨n, 0, none⟩) la c] σ fun v σ' => ∃ q c' τ, v = .slice (some ⟨σ.length + q, 0, none⟩) la c' ∧ σ' = σ ++ τ ∧ look τ q = some ⟨A.map .bool, true, 1⟩ := by
  subst hla
  refine cw_in Try.func27 rfl Try.ntmps27 (rs := [.tmp 2]) rfl (by kernel_rfl) (by exact Nat.le_of_ble_eq_true rfl) ?_
  have hn : n < σ.length := look_lt ha
  have hs : ∀ l, asrc (σ ++ l) 1 (.slice (some ⟨n, 0, none⟩) A.length c) = some (A.length, A.map .bool) := fun l => by
    rw [src_ptr ((look_app_lt hn).trans ha) (by simp)]
    simp only [List.drop_zero, Nat.mul_one, List.take_of_length_le (show (A.map Value.bool).length ≤ A.length by simp)]
  have hne : ∀ x y, (if aguard Try.prog .eql 23 x y (.slice (some ⟨n, 0, none⟩) A.length c) (.slice none 0 0) = true then abin Try.prog .eql 23 (.slice (some ⟨n, 0, none⟩) A.length c) (.slice none 0 0) else none) = some (.bool false) := fun x y => by
    cases hA : A.length with
    | zero => rw [hc hA]; kernel_rfl
    | succ k => kernel_rfl
  simp only [go_sem, ↓reduceIte, Nat.reduceEqDiff, Nat.reduceAdd, Nat.reduceMul, Nat.reduceLT, Nat.reduceLeDiff, Int.reduceLT, Int.reduceLE, Int.reduceNeg, Int.reduceAdd, Int.reduceSub, Int.reduceMul, Int.reduceToNat, Int.reduceEq, Int.reduceNe, Int.cast_ofNat_Int, Int.natCast_one, Int.natCast_zero, Int.natCast_add, reduceCtorEq, hne, hs, show A.length ≤ 140737488355328 by omega]
  exact ⟨1, _, _, rfl, rfl, rfl⟩
set_option maxHeartbeats 1000000 in
theorem f28_ok (X : Ext) (A B : List Bool) (n c m d la lb : Nat) (ow ow' : Bool) (sz sz' : Nat) (σ : Heap) (ha : look σ n = some ⟨A.map .bool, ow, sz⟩) (hb : look σ m = some ⟨B.map .bool, ow', sz'⟩) (hla : la = A.length) (hlb : lb = B.length) (hA : A.length ≤ 1000000) :
    CW Try.prog X 28 [.slice (some ⟨n, 0, none⟩) la c, .slice (some ⟨m, 0, none⟩) lb d] σ fun v σ' => v = .bool (decide (A = B)) ∧ σ' = σ := by
  subst hla; subst hlb
  refine cw_in Try.func28 rfl Try.ntmps28 (rs := [.tmp 4]) rfl (by kernel_rfl) (by exact Nat.le_of_ble_eq_true rfl) ?_
  simp only [go_sem, ↓reduceIte, Nat.reduceEqDiff, Nat.reduceAdd, Nat.reduceMul, Nat.reduceLT, Nat.reduceLeDiff, Int.reduceLT, Int.reduceLE, Int.reduceNeg, Int.reduceAdd, Int.reduceSub, Int.reduceMul, Int.reduceToNat, Int.reduceEq, Int.reduceNe, Int.cast_ofNat_Int, Int.natCast_one, Int.natCast_zero, Int.natCast_add, reduceCtorEq]
  refine fork_dec (fun _ => ?_) (fun _ => ?_)
  · rename_i h
    simp only [go_sem, ↓reduceIte, Nat.reduceEqDiff, Nat.reduceAdd, Nat.reduceMul, Nat.reduceLT, Nat.reduceLeDiff, Int.reduceLT, Int.reduceLE, Int.reduceNeg, Int.reduceAdd, Int.reduceSub, Int.reduceMul, Int.reduceToNat, Int.reduceEq, Int.reduceNe, Int.cast_ofNat_Int, Int.natCast_one, Int.natCast_zero, Int.natCast_add, reduceCtorEq, h]
    refine congrArg _ (Eq.symm (decide_eq_false fun e => h (by rw [e])))
  · rename_i h
    simp only [go_sem, ↓reduceIte, Nat.reduceEqDiff, Nat.reduceAdd, Nat.reduceMul, Nat.reduceLT, Nat.reduceLeDiff, Int.reduceLT, Int.reduceLE, Int.reduceNeg, Int.reduceAdd, Int.reduceSub, Int.reduceMul, Int.reduceToNat, Int.reduceEq, Int.reduceNe, Int.cast_ofNat_Int, Int.natCast_one, Int.natCast_zero, Int.natCast_add, reduceCtorEq, h]
    have hlen : A.length = B.length := by omega
    refine LW_run (fun k T σ' => ∃ i : Nat, i + k = A.length ∧ σ' = σ ∧ T 0 = .slice (some ⟨n, 0, none⟩) A.length c ∧ T 1 = .slice (some ⟨m, 0, none⟩) B.length d ∧ T 13 = .int .i64 i ∧ T 12 = .int .i64 A.length ∧ A.take i = B.take i) A.length ⟨0, by simp, rfl, rfl, rfl, rfl, rfl, rfl⟩ ?_
    rintro k T _ ⟨i, hk, rfl, h0, h1, h5, h12, hv⟩
    simp only [go_sem, ↓reduceIte, Nat.reduceEqDiff, Nat.reduceAdd, Nat.reduceMul, Nat.reduceLT, Nat.reduceLeDiff, Int.reduceLT, Int.reduceLE, Int.reduceNeg, Int.reduceAdd, Int.reduceSub, Int.reduceMul, Int.reduceToNat, Int.reduceEq, Int.reduceNe, Int.cast_ofNat_Int, Int.natCast_one, Int.natCast_zero, Int.natCast_add, reduceCtorEq, h0, h1, h5, h12]
    refine fork_dec (fun _ => ?_) (fun _ => ?_)
    · rename_i hi
      obtain ⟨x, hx⟩ : ∃ x, A[i]? = some x := ⟨A[i]'(by omega), List.getElem?_eq_getElem _⟩
      obtain ⟨y, hy⟩ : ∃ y, B[i]? = some y := ⟨B[i]'(by omega), List.getElem?_eq_getElem _⟩
      simp only [go_sem, ↓reduceIte, Nat.reduceEqDiff, Nat.reduceAdd, Nat.reduceMul, Nat.reduceLT, Nat.reduceLeDiff, Int.reduceLT, Int.reduceLE, Int.reduceNeg, Int.reduceAdd, Int.reduceSub, Int.reduceMul, Int.reduceToNat, Int.reduceEq, Int.reduceNe, Int.cast_ofNat_Int, Int.natCast_one, Int.natCast_zero, Int.natCast_add, reduceCtorEq, h0, h1, h5, h12, hi, show (i : Int) < B.length by omega, ha, hb, List.getElem?_map, hx, hy]
      refine fork_intro (fun he => ?_) (fun he => ?_)
      · simp only [go_sem, ↓reduceIte, Nat.reduceEqDiff, Nat.reduceAdd, Nat.reduceMul, Nat.reduceLT, Nat.reduceLeDiff, Int.reduceLT, Int.reduceLE, Int.reduceNeg, Int.reduceAdd, Int.reduceSub, Int.reduceMul, Int.reduceToNat, Int.reduceEq, Int.reduceNe, Int.cast_ofNat_Int, Int.natCast_one, Int.natCast_zero, Int.natCast_add, reduceCtorEq, he]
        refine congrArg _ (Eq.symm (decide_eq_false fun e => ?_))
        rw [e, hy] at hx
        simp [Option.some.inj hx] at he
      · simp only [go_sem, ↓reduceIte, Nat.reduceEqDiff, Nat.reduceAdd, Nat.reduceMul, Nat.reduceLT, Nat.reduceLeDiff, Int.reduceLT, Int.reduceLE, Int.reduceNeg, Int.reduceAdd, Int.reduceSub, Int.reduceMul, Int.reduceToNat, Int.reduceEq, Int.reduceNe, Int.cast_ofNat_Int, Int.natCast_one, Int.natCast_zero, Int.natCast_add, reduceCtorEq, h0, h1, h5, h12, he, wrap64 (show -9223372036854775808 ≤ (i : Int) + 1 ∧ (i : Int) + 1 ≤ 9223372036854775807 by omega)]
        refine ⟨k - 1, by omega, i + 1, by omega, rfl, ?_⟩
        have hxy : x = y := by simpa using he
        rw [List.take_add_one, List.take_add_one, hv, hx, hy, hxy]
    · rename_i hi
      simp only [go_sem, ↓reduceIte, Nat.reduceEqDiff, Nat.reduceAdd, Nat.reduceMul, Nat.reduceLT, Nat.reduceLeDiff, Int.reduceLT, Int.reduceLE, Int.reduceNeg, Int.reduceAdd, Int.reduceSub, Int.reduceMul, Int.reduceToNat, Int.reduceEq, Int.reduceNe, Int.cast_ofNat_Int, Int.natCast_one, Int.natCast_zero, Int.natCast_add, reduceCtorEq, h0, h1, h5, h12, hi]
      refine congrArg _ (Eq.symm (decide_eq_true ?_))
      have e : i = A.length := by omega
      rw [List.take_of_length_le (by omega), List.take_of_length_le (by omega)] at hv
      exact hv

end Go.Proofs.Ytcjhgnbkdiopkaa.Abs
