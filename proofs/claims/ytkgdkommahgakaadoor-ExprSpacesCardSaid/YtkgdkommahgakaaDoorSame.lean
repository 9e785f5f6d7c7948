import Derived.Test.YtkgdkommahgakaaDoorExmp
namespace Go.Proofs.YtkgdkommahgakaaDoor.Abs
open Go Go.RowKit Gram
set_option linter.unusedVariables false
set_option linter.unusedSimpArgs false
set_option maxRecDepth 100000

/-- Nodes: none, or a block of them. -/
def NB (σ : Heap) (L : List Nd) (v : Value) : Prop := (L = [] ∧ v = .slice none 0 0) ∨ ∃ n c ow sz, v = .slice (some ⟨n, 0, none⟩) L.length c ∧ look σ n = some ⟨L.flatMap Nd.cells, ow, sz⟩
theorem NB.mono {σ σ' : Heap} {L : List Nd} {v : Value} (h : NB σ L v) (hp : σ <+: σ') : NB σ' L v := by
  rcases h with h | ⟨n, c, ow, sz, h1, h2⟩
  · exact .inl h
  · exact .inr ⟨n, c, ow, sz, h1, look_prefix hp h2⟩
theorem NV.nb {b : Nat} {σ : Heap} {L : List Nd} {v : Value} (h : NV b σ L v) : NB σ L v := by
  rcases h with h | ⟨n, c, h1, _, _, h2⟩
  · exact .inl h
  · exact .inr ⟨n, c, _, _, h1, h2⟩
theorem Nd.ext_iff' (x y : Nd) : (x.kind = y.kind ∧ x.value = y.value ∧ x.name = y.name ∧ x.left = y.left ∧ x.right = y.right) ↔ x = y := by
  obtain ⟨a0, a1, a2, a3, a4⟩ := x
  obtain ⟨b0, b1, b2, b3, b4⟩ := y
  simp
set_option maxHeartbeats 1000000 in
theorem f23_ok (X : Ext) (A B : List Nd) (va vb : Value) (σ : Heap) (hA : NB σ A va) (hB : NB σ B vb) (h1 : A.length ≤ 140737488351232) (h2 : B.length ≤ 140737488351232) : CW Tryd.prog X 23 [va, vb] σ fun v σ' => v = .bool (decide (A = B)) ∧ σ <+: σ' := by
  refine cw_in Tryd.func23 rfl Tryd.ntmps23 (rs := [.tmp 4]) rfl (by kernel_rfl) (by exact Nat.le_of_ble_eq_true rfl) ?_
  rcases hA with ⟨rfl, rfl⟩ | ⟨n, c, ow, sz, rfl, hA⟩ <;> rcases hB with ⟨rfl, rfl⟩ | ⟨m, d, ow2, sz2, rfl, hB⟩
  · simp only [go_sem, ↓reduceIte, Nat.reduceEqDiff, Nat.reduceAdd, Nat.reduceMul, Nat.reduceLT, Nat.reduceLeDiff, Int.reduceLT, Int.reduceLE, Int.reduceNeg, Int.reduceAdd, Int.reduceSub, Int.reduceMul, Int.reduceToNat, Int.reduceEq, Int.reduceNe, Int.cast_ofNat_Int, Int.natCast_one, Int.natCast_zero, Int.natCast_add, reduceCtorEq]
    refine LW_unroll ?_
    simp only [go_sem, ↓reduceIte, Nat.reduceEqDiff, Nat.reduceAdd, Nat.reduceMul, Nat.reduceLT, Nat.reduceLeDiff, Int.reduceLT, Int.reduceLE, Int.reduceNeg, Int.reduceAdd, Int.reduceSub, Int.reduceMul, Int.reduceToNat, Int.reduceEq, Int.reduceNe, Int.cast_ofNat_Int, Int.natCast_one, Int.natCast_zero, Int.natCast_add, reduceCtorEq]
    exact List.prefix_rfl
  · cases B with
    | nil =>
      simp only [go_sem, ↓reduceIte, Nat.reduceEqDiff, Nat.reduceAdd, Nat.reduceMul, Nat.reduceLT, Nat.reduceLeDiff, Int.reduceLT, Int.reduceLE, Int.reduceNeg, Int.reduceAdd, Int.reduceSub, Int.reduceMul, Int.reduceToNat, Int.reduceEq, Int.reduceNe, Int.cast_ofNat_Int, Int.natCast_one, Int.natCast_zero, Int.natCast_add, reduceCtorEq, List.length_nil, Int.natCast_zero]
      refine LW_unroll ?_
      simp only [go_sem, ↓reduceIte, Nat.reduceEqDiff, Nat.reduceAdd, Nat.reduceMul, Nat.reduceLT, Nat.reduceLeDiff, Int.reduceLT, Int.reduceLE, Int.reduceNeg, Int.reduceAdd, Int.reduceSub, Int.reduceMul, Int.reduceToNat, Int.reduceEq, Int.reduceNe, Int.cast_ofNat_Int, Int.natCast_one, Int.natCast_zero, Int.natCast_add, reduceCtorEq]
      exact List.prefix_rfl
    | cons y B =>
      simp only [go_sem, ↓reduceIte, Nat.reduceEqDiff, Nat.reduceAdd, Nat.reduceMul, Nat.reduceLT, Nat.reduceLeDiff, Int.reduceLT, Int.reduceLE, Int.reduceNeg, Int.reduceAdd, Int.reduceSub, Int.reduceMul, Int.reduceToNat, Int.reduceEq, Int.reduceNe, Int.cast_ofNat_Int, Int.natCast_one, Int.natCast_zero, Int.natCast_add, reduceCtorEq, eq_false (show ¬ (0 : Int) = (B.length : Int) + 1 by omega)]
      first | exact List.prefix_rfl | exact ⟨by simp, List.prefix_rfl⟩
  · cases A with
    | nil =>
      simp only [go_sem, ↓reduceIte, Nat.reduceEqDiff, Nat.reduceAdd, Nat.reduceMul, Nat.reduceLT, Nat.reduceLeDiff, Int.reduceLT, Int.reduceLE, Int.reduceNeg, Int.reduceAdd, Int.reduceSub, Int.reduceMul, Int.reduceToNat, Int.reduceEq, Int.reduceNe, Int.cast_ofNat_Int, Int.natCast_one, Int.natCast_zero, Int.natCast_add, reduceCtorEq, List.length_nil, Int.natCast_zero]
      refine LW_unroll ?_
      simp only [go_sem, ↓reduceIte, Nat.reduceEqDiff, Nat.reduceAdd, Nat.reduceMul, Nat.reduceLT, Nat.reduceLeDiff, Int.reduceLT, Int.reduceLE, Int.reduceNeg, Int.reduceAdd, Int.reduceSub, Int.reduceMul, Int.reduceToNat, Int.reduceEq, Int.reduceNe, Int.cast_ofNat_Int, Int.natCast_one, Int.natCast_zero, Int.natCast_add, reduceCtorEq]
      exact List.prefix_rfl
    | cons y A =>
      simp only [go_sem, ↓reduceIte, Nat.reduceEqDiff, Nat.reduceAdd, Nat.reduceMul, Nat.reduceLT, Nat.reduceLeDiff, Int.reduceLT, Int.reduceLE, Int.reduceNeg, Int.reduceAdd, Int.reduceSub, Int.reduceMul, Int.reduceToNat, Int.reduceEq, Int.reduceNe, Int.cast_ofNat_Int, Int.natCast_one, Int.natCast_zero, Int.natCast_add, reduceCtorEq, eq_false (show ¬ (A.length : Int) + 1 = 0 by omega)]
      first | exact List.prefix_rfl | exact ⟨by simp, List.prefix_rfl⟩
  · by_cases hle : A.length = B.length
    · have hn := look_lt hA
      have hm := look_lt hB
      have hal := Nd.len A
      have hbl := Nd.len B
      simp only [go_sem, ↓reduceIte, Nat.reduceEqDiff, Nat.reduceAdd, Nat.reduceMul, Nat.reduceLT, Nat.reduceLeDiff, Int.reduceLT, Int.reduceLE, Int.reduceNeg, Int.reduceAdd, Int.reduceSub, Int.reduceMul, Int.reduceToNat, Int.reduceEq, Int.reduceNe, Int.cast_ofNat_Int, Int.natCast_one, Int.natCast_zero, Int.natCast_add, reduceCtorEq, eq_true (show (A.length : Int) = (B.length : Int) by omega)]
      refine LW_run (fun k T ρ => ∃ i : Nat, i + k = A.length ∧ ρ = σ ∧ T 0 = .slice (some ⟨n, 0, none⟩) A.length c ∧ T 1 = .slice (some ⟨m, 0, none⟩) B.length d ∧ T 5 = .int .i64 i ∧ A.take i = B.take i) A.length ⟨0, by simp, rfl, rfl, rfl, rfl, by simp⟩ ?_
      rintro k T _ ⟨i, hk, rfl, t0, t1, t5, hv⟩
      simp only [go_sem, ↓reduceIte, Nat.reduceEqDiff, Nat.reduceAdd, Nat.reduceMul, Nat.reduceLT, Nat.reduceLeDiff, Int.reduceLT, Int.reduceLE, Int.reduceNeg, Int.reduceAdd, Int.reduceSub, Int.reduceMul, Int.reduceToNat, Int.reduceEq, Int.reduceNe, Int.cast_ofNat_Int, Int.natCast_one, Int.natCast_zero, Int.natCast_add, reduceCtorEq, t0, t1, t5]
      refine fork_dec (fun _ => ?_) (fun _ => ?_)
      · rename_i hi
        obtain ⟨x, hx⟩ : ∃ x, A[i]? = some x := ⟨_, List.getElem?_eq_getElem (by omega)⟩
        obtain ⟨y, hy⟩ : ∃ y, B[i]? = some y := ⟨_, List.getElem?_eq_getElem (by omega)⟩
        have hw : IntKind.i64.wrap ((i : Int) + 1) = (i : Int) + 1 := wrap64 (by omega)
        have e1 : A.take (i + 1) = A.take i ++ [x] := by rw [List.take_add_one, hx]; rfl
        have e2 : B.take (i + 1) = B.take i ++ [y] := by rw [List.take_add_one, hy]; rfl
        simp only [go_sem, ↓reduceIte, Nat.reduceEqDiff, Nat.reduceAdd, Nat.reduceMul, Nat.reduceLT, Nat.reduceLeDiff, Int.reduceLT, Int.reduceLE, Int.reduceNeg, Int.reduceAdd, Int.reduceSub, Int.reduceMul, Int.reduceToNat, Int.reduceEq, Int.reduceNe, Int.cast_ofNat_Int, Int.natCast_one, Int.natCast_zero, Int.natCast_add, reduceCtorEq, t0, t1, t5, hi, hA, hB, Nd.take hx, Nd.take hy, hal, hbl, Nd.cells, show i * 5 + 5 ≤ A.length * 5 by omega, show i * 5 + 5 ≤ B.length * 5 by omega, show (i : Int) < (B.length : Int) by omega]
        by_cases he : x = y
        · simp only [go_sem, ↓reduceIte, Nat.reduceEqDiff, Nat.reduceAdd, Nat.reduceMul, Nat.reduceLT, Nat.reduceLeDiff, Int.reduceLT, Int.reduceLE, Int.reduceNeg, Int.reduceAdd, Int.reduceSub, Int.reduceMul, Int.reduceToNat, Int.reduceEq, Int.reduceNe, Int.cast_ofNat_Int, Int.natCast_one, Int.natCast_zero, Int.natCast_add, reduceCtorEq, eq_true ((Nd.ext_iff' x y).2 he), t0, t1, t5, hw]
          refine ⟨k - 1, by omega, i + 1, ?_⟩
          (repeat' (first | exact rfl | apply And.intro))
          all_goals first | omega | (rw [e1, e2, hv, he])
        · simp only [go_sem, ↓reduceIte, Nat.reduceEqDiff, Nat.reduceAdd, Nat.reduceMul, Nat.reduceLT, Nat.reduceLeDiff, Int.reduceLT, Int.reduceLE, Int.reduceNeg, Int.reduceAdd, Int.reduceSub, Int.reduceMul, Int.reduceToNat, Int.reduceEq, Int.reduceNe, Int.cast_ofNat_Int, Int.natCast_one, Int.natCast_zero, Int.natCast_add, reduceCtorEq, eq_false (fun h => he ((Nd.ext_iff' x y).1 h)), t0, t1, t5]
          refine ⟨?_, List.prefix_rfl⟩
          rw [decide_eq_false (fun h => he (by rw [h] at hx; rw [hx] at hy; exact Option.some.inj hy))]
      · rename_i hi
        simp only [go_sem, ↓reduceIte, Nat.reduceEqDiff, Nat.reduceAdd, Nat.reduceMul, Nat.reduceLT, Nat.reduceLeDiff, Int.reduceLT, Int.reduceLE, Int.reduceNeg, Int.reduceAdd, Int.reduceSub, Int.reduceMul, Int.reduceToNat, Int.reduceEq, Int.reduceNe, Int.cast_ofNat_Int, Int.natCast_one, Int.natCast_zero, Int.natCast_add, reduceCtorEq]
        refine ⟨?_, List.prefix_rfl⟩
        rw [List.take_of_length_le (by omega), List.take_of_length_le (by omega)] at hv
        simp [hv]
    · simp only [go_sem, ↓reduceIte, Nat.reduceEqDiff, Nat.reduceAdd, Nat.reduceMul, Nat.reduceLT, Nat.reduceLeDiff, Int.reduceLT, Int.reduceLE, Int.reduceNeg, Int.reduceAdd, Int.reduceSub, Int.reduceMul, Int.reduceToNat, Int.reduceEq, Int.reduceNe, Int.cast_ofNat_Int, Int.natCast_one, Int.natCast_zero, Int.natCast_add, reduceCtorEq, eq_false (show ¬ (A.length : Int) = (B.length : Int) by omega)]
      refine ⟨?_, List.prefix_rfl⟩
      rw [decide_eq_false (fun h => hle (by rw [h]))]
end Go.Proofs.YtkgdkommahgakaaDoor.Abs
