import Derived.Test.YtkgdkommahgakaaDoorPse
namespace Go.Proofs.YtkgdkommahgakaaDoor.Abs
open Go Go.RowKit Gram
set_option linter.unusedVariables false
set_option linter.unusedSimpArgs false
set_option maxRecDepth 100000

/-! ### expressions that are valid -/
def nodeErr (x : Nd) (i : Nat) : Int :=
  if x.kind < 1 ∨ 14 < x.kind then 4
  else if x.kind = 1 ∧ (x.value < 0 ∨ 4294967296 ≤ x.value) then 3
  else if x.kind = 2 ∧ nameOk x.name = false then 12
  else if (2 < x.kind ∧ (x.left < 0 ∨ (i : Int) ≤ x.left)) ∨ (4 < x.kind ∧ (x.right < 0 ∨ (i : Int) ≤ x.right)) then 5 else 0
def firstE : Nat → List Nd → Int × Int
  | _, [] => (0, 0)
  | i, x :: l => if nodeErr x i ≠ 0 then (nodeErr x i, i) else firstE (i + 1) l
def exprFault (E : List Nd) : Int × Int := if E.length = 0 ∨ 60 < E.length then (2, -1) else firstE 0 E
theorem Nd.take {x : Nd} {L : List Nd} {i : Nat} (h : L[i]? = some x) : ((L.flatMap Nd.cells).drop (i * 5)).take 5 = x.cells := chunk_at Nd.cells 5 (fun _ => rfl) x L i h
theorem drop_at {α : Type} {L : List α} {i : Nat} {x : α} (h : L[i]? = some x) : L.drop i = x :: L.drop (i + 1) := by
  obtain ⟨hi, rfl⟩ := List.getElem?_eq_some_iff.1 h
  rw [List.drop_eq_getElem_cons hi]

set_option maxHeartbeats 2000000 in
theorem f26_ok (X : Ext) (E : List Nd) (n c : Nat) (ow : Bool) (sz : Nat) (σ : Heap) (hl : look σ n = some ⟨E.flatMap Nd.cells, ow, sz⟩) (ht : ∀ x ∈ E, x.name.length ≤ 140737488351232) (la : Nat) (hla : la = E.length) (hz : E.length ≤ 140737488351232) :
    CW Tryd.prog X 26 [.slice (some ⟨n, 0, none⟩) la c] σ fun v σ' => v = faultV (exprFault E) ∧ σ <+: σ' := by
  subst hla
  refine cw_in Tryd.func26 rfl Tryd.ntmps26 (rs := [.cell 2 26]) rfl (by kernel_rfl) (by exact Nat.le_of_ble_eq_true rfl) ?_
  have hn : n < σ.length := look_lt hl
  have hel := Nd.len E
  by_cases h0 : E.length = 0
  · simp only [go_sem, ↓reduceIte, Nat.reduceEqDiff, Nat.reduceAdd, Nat.reduceMul, Nat.reduceLT, Nat.reduceLeDiff, Int.reduceLT, Int.reduceLE, Int.reduceNeg, Int.reduceAdd, Int.reduceSub, Int.reduceMul, Int.reduceToNat, Int.reduceEq, Int.reduceNe, Int.cast_ofNat_Int, Int.natCast_one, Int.natCast_zero, Int.natCast_add, reduceCtorEq, show (E.length : Int) = 0 by omega]
    refine ⟨?_, List.prefix_append _ _⟩
    rw [exprFault, if_pos (.inl h0)]
    rfl
  by_cases h60 : 60 < E.length
  · simp only [go_sem, ↓reduceIte, Nat.reduceEqDiff, Nat.reduceAdd, Nat.reduceMul, Nat.reduceLT, Nat.reduceLeDiff, Int.reduceLT, Int.reduceLE, Int.reduceNeg, Int.reduceAdd, Int.reduceSub, Int.reduceMul, Int.reduceToNat, Int.reduceEq, Int.reduceNe, Int.cast_ofNat_Int, Int.natCast_one, Int.natCast_zero, Int.natCast_add, reduceCtorEq, show ¬ (E.length : Int) = 0 by omega, show (60 : Int) < (E.length : Int) by omega]
    refine ⟨?_, List.prefix_append _ _⟩
    rw [exprFault, if_pos (.inr h60)]
    rfl
  simp only [go_sem, ↓reduceIte, Nat.reduceEqDiff, Nat.reduceAdd, Nat.reduceMul, Nat.reduceLT, Nat.reduceLeDiff, Int.reduceLT, Int.reduceLE, Int.reduceNeg, Int.reduceAdd, Int.reduceSub, Int.reduceMul, Int.reduceToNat, Int.reduceEq, Int.reduceNe, Int.cast_ofNat_Int, Int.natCast_one, Int.natCast_zero, Int.natCast_add, reduceCtorEq, show ¬ (E.length : Int) = 0 by omega, show ¬ (60 : Int) < (E.length : Int) by omega]
  have he : exprFault E = firstE 0 E := by rw [exprFault, if_neg (by omega)]
  rw [he]
  refine LW_run (fun k T ρ => ∃ (i : Nat) (τ : Heap), i + k = E.length ∧ ρ = σ ++ some ⟨[.int .i64 0, .int .i64 0], true, 0⟩ :: τ ∧ T 2 = .pointer (some ⟨σ.length, 0, none⟩) ∧ T 15 = .slice (some ⟨n, 0, none⟩) E.length c ∧ T 16 = .int .i64 E.length ∧ T 17 = .int .i64 i
      ∧ firstE 0 E = firstE i (E.drop i)) E.length ⟨0, [], by simp, rfl, rfl, rfl, rfl, rfl, rfl⟩ ?_
  rintro k T _ ⟨i, τ, hk, rfl, t2, t15, t16, t17, hv⟩
  simp only [go_sem, ↓reduceIte, Nat.reduceEqDiff, Nat.reduceAdd, Nat.reduceMul, Nat.reduceLT, Nat.reduceLeDiff, Int.reduceLT, Int.reduceLE, Int.reduceNeg, Int.reduceAdd, Int.reduceSub, Int.reduceMul, Int.reduceToNat, Int.reduceEq, Int.reduceNe, Int.cast_ofNat_Int, Int.natCast_one, Int.natCast_zero, Int.natCast_add, reduceCtorEq, t2, t15, t16, t17]
  refine fork_dec (fun _ => ?_) (fun _ => ?_)
  · rename_i hi
    obtain ⟨x, hx⟩ : ∃ x, E[i]? = some x := ⟨_, List.getElem?_eq_getElem (by omega)⟩
    have hw : IntKind.i64.wrap ((i : Int) + 1) = (i : Int) + 1 := wrap64 (by omega)
    have hnm := ht x (List.mem_of_getElem? hx)
    rw [drop_at hx, firstE] at hv
    have bad : ∀ e : Int, e ≠ 0 → nodeErr x i = e → firstE 0 E = (e, (i : Int)) := fun e h1 h2 => by rw [hv, h2, if_pos h1]
    have good : nodeErr x i = 0 → firstE 0 E = firstE (i + 1) (E.drop (i + 1)) := fun h2 => by rw [hv, h2, if_neg (by simp)]
    have hie : (if (i : Int) < (E.length : Int) then True else False) := by rw [if_pos hi]; trivial
    by_cases k1 : x.kind < 1 ∨ 14 < x.kind
    · have e4 := bad 4 (by omega) (by rw [nodeErr, if_pos k1])
      by_cases k2 : x.kind < 1
      · simp only [go_sem, ↓reduceIte, Nat.reduceEqDiff, Nat.reduceAdd, Nat.reduceMul, Nat.reduceLT, Nat.reduceLeDiff, Int.reduceLT, Int.reduceLE, Int.reduceNeg, Int.reduceAdd, Int.reduceSub, Int.reduceMul, Int.reduceToNat, Int.reduceEq, Int.reduceNe, Int.cast_ofNat_Int, Int.natCast_one, Int.natCast_zero, Int.natCast_add, reduceCtorEq, t2, t15, t16, t17, hi, look_app_lt hn, hl, Nd.take hx, hel, show i * 5 + 5 ≤ E.length * 5 by omega, Nd.cells, k2]
        rw [e4]
        exact ⟨rfl, List.prefix_append _ _⟩
      · simp only [go_sem, ↓reduceIte, Nat.reduceEqDiff, Nat.reduceAdd, Nat.reduceMul, Nat.reduceLT, Nat.reduceLeDiff, Int.reduceLT, Int.reduceLE, Int.reduceNeg, Int.reduceAdd, Int.reduceSub, Int.reduceMul, Int.reduceToNat, Int.reduceEq, Int.reduceNe, Int.cast_ofNat_Int, Int.natCast_one, Int.natCast_zero, Int.natCast_add, reduceCtorEq, t2, t15, t16, t17, hi, look_app_lt hn, hl, Nd.take hx, hel, show i * 5 + 5 ≤ E.length * 5 by omega, Nd.cells, k2, show 14 < x.kind by omega]
        rw [e4]
        exact ⟨rfl, List.prefix_append _ _⟩
    have k1a : ¬ x.kind < 1 := by omega
    have k1b : ¬ 14 < x.kind := by omega
    have ne1 : nodeErr x i = if x.kind = 1 ∧ (x.value < 0 ∨ 4294967296 ≤ x.value) then 3
        else if x.kind = 2 ∧ nameOk x.name = false then 12
        else if (2 < x.kind ∧ (x.left < 0 ∨ (i : Int) ≤ x.left)) ∨ (4 < x.kind ∧ (x.right < 0 ∨ (i : Int) ≤ x.right)) then 5 else 0 := by rw [nodeErr, if_neg k1]
    rw [ne1] at bad good
    by_cases q1 : x.kind = 1
    · by_cases q2 : x.value < 0
      · simp only [go_sem, ↓reduceIte, Nat.reduceEqDiff, Nat.reduceAdd, Nat.reduceMul, Nat.reduceLT, Nat.reduceLeDiff, Int.reduceLT, Int.reduceLE, Int.reduceNeg, Int.reduceAdd, Int.reduceSub, Int.reduceMul, Int.reduceToNat, Int.reduceEq, Int.reduceNe, Int.cast_ofNat_Int, Int.natCast_one, Int.natCast_zero, Int.natCast_add, reduceCtorEq, t2, t15, t16, t17, hi, look_app_lt hn, hl, Nd.take hx, hel, show i * 5 + 5 ≤ E.length * 5 by omega, Nd.cells, q1, q2]
        rw [bad 3 (by omega) (by rw [if_pos (by omega)])]
        exact ⟨rfl, List.prefix_append _ _⟩
      · by_cases q3 : 4294967296 ≤ x.value
        · simp only [go_sem, ↓reduceIte, Nat.reduceEqDiff, Nat.reduceAdd, Nat.reduceMul, Nat.reduceLT, Nat.reduceLeDiff, Int.reduceLT, Int.reduceLE, Int.reduceNeg, Int.reduceAdd, Int.reduceSub, Int.reduceMul, Int.reduceToNat, Int.reduceEq, Int.reduceNe, Int.cast_ofNat_Int, Int.natCast_one, Int.natCast_zero, Int.natCast_add, reduceCtorEq, t2, t15, t16, t17, hi, look_app_lt hn, hl, Nd.take hx, hel, show i * 5 + 5 ≤ E.length * 5 by omega, Nd.cells, q1, q2, q3]
          rw [bad 3 (by omega) (by rw [if_pos (by omega)])]
          exact ⟨rfl, List.prefix_append _ _⟩
        · simp only [go_sem, ↓reduceIte, Nat.reduceEqDiff, Nat.reduceAdd, Nat.reduceMul, Nat.reduceLT, Nat.reduceLeDiff, Int.reduceLT, Int.reduceLE, Int.reduceNeg, Int.reduceAdd, Int.reduceSub, Int.reduceMul, Int.reduceToNat, Int.reduceEq, Int.reduceNe, Int.cast_ofNat_Int, Int.natCast_one, Int.natCast_zero, Int.natCast_add, reduceCtorEq, t2, t15, t16, t17, hi, look_app_lt hn, hl, Nd.take hx, hel, show i * 5 + 5 ≤ E.length * 5 by omega, Nd.cells, q1, q2, q3, hw]
          refine ⟨k - 1, by omega, i + 1, _, by omega, rfl, ?_⟩
          (repeat' (first | exact rfl | apply And.intro))
          exact good (by rw [if_neg (by omega), if_neg (by omega), if_neg (by omega)])
    by_cases q2 : x.kind = 2
    · simp only [go_sem, ↓reduceIte, Nat.reduceEqDiff, Nat.reduceAdd, Nat.reduceMul, Nat.reduceLT, Nat.reduceLeDiff, Int.reduceLT, Int.reduceLE, Int.reduceNeg, Int.reduceAdd, Int.reduceSub, Int.reduceMul, Int.reduceToNat, Int.reduceEq, Int.reduceNe, Int.cast_ofNat_Int, Int.natCast_one, Int.natCast_zero, Int.natCast_add, reduceCtorEq, t2, t15, t16, t17, hi, look_app_lt hn, hl, Nd.take hx, hel, show i * 5 + 5 ≤ E.length * 5 by omega, Nd.cells, q2]
      refine (f55_ok X x.name hnm _).mono ?_
      rintro _ _ ⟨rfl, rfl⟩
      cases hnk : nameOk x.name with
      | false =>
        simp only [go_sem, ↓reduceIte, Nat.reduceEqDiff, Nat.reduceAdd, Nat.reduceMul, Nat.reduceLT, Nat.reduceLeDiff, Int.reduceLT, Int.reduceLE, Int.reduceNeg, Int.reduceAdd, Int.reduceSub, Int.reduceMul, Int.reduceToNat, Int.reduceEq, Int.reduceNe, Int.cast_ofNat_Int, Int.natCast_one, Int.natCast_zero, Int.natCast_add, reduceCtorEq, t2, t15, t16, t17, q2]
        rw [bad 12 (by omega) (by rw [if_neg (by omega), if_pos ⟨q2, hnk⟩])]
        exact ⟨rfl, List.prefix_append _ _⟩
      | true =>
        simp only [go_sem, ↓reduceIte, Nat.reduceEqDiff, Nat.reduceAdd, Nat.reduceMul, Nat.reduceLT, Nat.reduceLeDiff, Int.reduceLT, Int.reduceLE, Int.reduceNeg, Int.reduceAdd, Int.reduceSub, Int.reduceMul, Int.reduceToNat, Int.reduceEq, Int.reduceNe, Int.cast_ofNat_Int, Int.natCast_one, Int.natCast_zero, Int.natCast_add, reduceCtorEq, t2, t15, t16, t17, q2, hw]
        refine ⟨k - 1, by omega, i + 1, _, by omega, rfl, ?_⟩
        (repeat' (first | exact rfl | apply And.intro))
        exact good (by rw [if_neg (by omega), if_neg (by rw [hnk]; simp), if_neg (by omega)])
    rw [if_neg (by omega), if_neg (by omega)] at bad good
    by_cases q5 : (2 < x.kind ∧ (x.left < 0 ∨ (i : Int) ≤ x.left)) ∨ (4 < x.kind ∧ (x.right < 0 ∨ (i : Int) ≤ x.right))
    · have e5 := bad 5 (by omega) (by rw [if_pos q5])
      rw [e5]
      by_cases p1 : x.left < 0
      · simp only [go_sem, ↓reduceIte, Nat.reduceEqDiff, Nat.reduceAdd, Nat.reduceMul, Nat.reduceLT, Nat.reduceLeDiff, Int.reduceLT, Int.reduceLE, Int.reduceNeg, Int.reduceAdd, Int.reduceSub, Int.reduceMul, Int.reduceToNat, Int.reduceEq, Int.reduceNe, Int.cast_ofNat_Int, Int.natCast_one, Int.natCast_zero, Int.natCast_add, reduceCtorEq, t2, t15, t16, t17, hi, look_app_lt hn, hl, Nd.take hx, hel, show i * 5 + 5 ≤ E.length * 5 by omega, Nd.cells, k1a, k1b, q1, q2, show 2 < x.kind by omega, p1]
        exact ⟨rfl, List.prefix_append _ _⟩
      · by_cases p2 : (i : Int) ≤ x.left
        · simp only [go_sem, ↓reduceIte, Nat.reduceEqDiff, Nat.reduceAdd, Nat.reduceMul, Nat.reduceLT, Nat.reduceLeDiff, Int.reduceLT, Int.reduceLE, Int.reduceNeg, Int.reduceAdd, Int.reduceSub, Int.reduceMul, Int.reduceToNat, Int.reduceEq, Int.reduceNe, Int.cast_ofNat_Int, Int.natCast_one, Int.natCast_zero, Int.natCast_add, reduceCtorEq, t2, t15, t16, t17, hi, look_app_lt hn, hl, Nd.take hx, hel, show i * 5 + 5 ≤ E.length * 5 by omega, Nd.cells, k1a, k1b, q1, q2, show 2 < x.kind by omega, p1, p2]
          exact ⟨rfl, List.prefix_append _ _⟩
        · by_cases p3 : x.right < 0
          · simp only [go_sem, ↓reduceIte, Nat.reduceEqDiff, Nat.reduceAdd, Nat.reduceMul, Nat.reduceLT, Nat.reduceLeDiff, Int.reduceLT, Int.reduceLE, Int.reduceNeg, Int.reduceAdd, Int.reduceSub, Int.reduceMul, Int.reduceToNat, Int.reduceEq, Int.reduceNe, Int.cast_ofNat_Int, Int.natCast_one, Int.natCast_zero, Int.natCast_add, reduceCtorEq, t2, t15, t16, t17, hi, look_app_lt hn, hl, Nd.take hx, hel, show i * 5 + 5 ≤ E.length * 5 by omega, Nd.cells, k1a, k1b, q1, q2, show 2 < x.kind by omega, p1, p2, p3, show 4 < x.kind by omega]
            exact ⟨rfl, List.prefix_append _ _⟩
          · simp only [go_sem, ↓reduceIte, Nat.reduceEqDiff, Nat.reduceAdd, Nat.reduceMul, Nat.reduceLT, Nat.reduceLeDiff, Int.reduceLT, Int.reduceLE, Int.reduceNeg, Int.reduceAdd, Int.reduceSub, Int.reduceMul, Int.reduceToNat, Int.reduceEq, Int.reduceNe, Int.cast_ofNat_Int, Int.natCast_one, Int.natCast_zero, Int.natCast_add, reduceCtorEq, t2, t15, t16, t17, hi, look_app_lt hn, hl, Nd.take hx, hel, show i * 5 + 5 ≤ E.length * 5 by omega, Nd.cells, k1a, k1b, q1, q2, show 2 < x.kind by omega, p1, p2, p3, show 4 < x.kind by omega, show (i : Int) ≤ x.right by omega]
            exact ⟨rfl, List.prefix_append _ _⟩
    · have e0 := good (by rw [if_neg q5])
      by_cases p4 : 4 < x.kind
      · simp only [go_sem, ↓reduceIte, Nat.reduceEqDiff, Nat.reduceAdd, Nat.reduceMul, Nat.reduceLT, Nat.reduceLeDiff, Int.reduceLT, Int.reduceLE, Int.reduceNeg, Int.reduceAdd, Int.reduceSub, Int.reduceMul, Int.reduceToNat, Int.reduceEq, Int.reduceNe, Int.cast_ofNat_Int, Int.natCast_one, Int.natCast_zero, Int.natCast_add, reduceCtorEq, t2, t15, t16, t17, hi, look_app_lt hn, hl, Nd.take hx, hel, show i * 5 + 5 ≤ E.length * 5 by omega, Nd.cells, k1a, k1b, q1, q2, show 2 < x.kind by omega, show ¬ x.left < 0 by omega, show ¬ (i : Int) ≤ x.left by omega, p4, show ¬ x.right < 0 by omega, show ¬ (i : Int) ≤ x.right by omega, hw]
        refine ⟨k - 1, by omega, i + 1, _, by omega, rfl, ?_⟩
        (repeat' (first | exact rfl | apply And.intro))
        exact e0
      · simp only [go_sem, ↓reduceIte, Nat.reduceEqDiff, Nat.reduceAdd, Nat.reduceMul, Nat.reduceLT, Nat.reduceLeDiff, Int.reduceLT, Int.reduceLE, Int.reduceNeg, Int.reduceAdd, Int.reduceSub, Int.reduceMul, Int.reduceToNat, Int.reduceEq, Int.reduceNe, Int.cast_ofNat_Int, Int.natCast_one, Int.natCast_zero, Int.natCast_add, reduceCtorEq, t2, t15, t16, t17, hi, look_app_lt hn, hl, Nd.take hx, hel, show i * 5 + 5 ≤ E.length * 5 by omega, Nd.cells, k1a, k1b, q1, q2, show 2 < x.kind by omega, show ¬ x.left < 0 by omega, show ¬ (i : Int) ≤ x.left by omega, p4, hw]
        refine ⟨k - 1, by omega, i + 1, _, by omega, rfl, ?_⟩
        (repeat' (first | exact rfl | apply And.intro))
        exact e0
  · rename_i hi
    simp only [go_sem, ↓reduceIte, Nat.reduceEqDiff, Nat.reduceAdd, Nat.reduceMul, Nat.reduceLT, Nat.reduceLeDiff, Int.reduceLT, Int.reduceLE, Int.reduceNeg, Int.reduceAdd, Int.reduceSub, Int.reduceMul, Int.reduceToNat, Int.reduceEq, Int.reduceNe, Int.cast_ofNat_Int, Int.natCast_one, Int.natCast_zero, Int.natCast_add, reduceCtorEq, t2, t15, t16, t17, hi]
    rw [hv, show E.drop i = [] from List.drop_eq_nil_of_le (by omega)]
    exact ⟨rfl, List.prefix_append _ _⟩
end Go.Proofs.YtkgdkommahgakaaDoor.Abs
