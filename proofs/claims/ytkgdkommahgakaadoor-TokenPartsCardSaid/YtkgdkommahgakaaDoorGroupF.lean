/- Part GroupF of the proof: an abstract machine for the program's calls, and what functions do on it. It has no conditions. -/
import Derived.Test.YtkgdkommahgakaaDoorGroupE
import Derived.Test.YtkgdkommahgakaaDoorGroupB
namespace Go.Proofs.YtkgdkommahgakaaDoor.Abs
open Go Go.RowKit Gram
set_option linter.unusedVariables false
set_option linter.unusedSimpArgs false
set_option maxRecDepth 100000

/-! ### expressions that are valid -/
def nodeErr (x : Nd) (i : Nat) : Int :=
  if x.kind < 1 ∨ 14 < x.kind then 4
  else if x.kind = 1 ∧ (x.value < 0 ∨ 4294967296 ≤ x.value) then 3
  else if x.kind = 2 ∧ nameOk x.name = false then 12
  else if (2 < x.kind ∧ (x.left < 0 ∨ (i : Int) ≤ x.left)) ∨ (4 < x.kind ∧ (x.right < 0 ∨ (i : Int) ≤ x.right)) then 5 else 0
def firstE : Nat → List Nd → Int × Int
  | _, [] => (0, 0)
  | i, x :: l => if nodeErr x i ≠ 0 then (nodeErr x i, i) else firstE (i + 1) l
def exprFault (E : List Nd) : Int × Int := if E.length = 0 ∨ 60 < E.length then (2, -1) else firstE 0 E
theorem Nd.take {x : Nd} {L : List Nd} {i : Nat} (h : L[i]? = some x) : ((L.flatMap Nd.cells).drop (i * 5)).take 5 = x.cells := chunk_at Nd.cells 5 (fun _ => rfl) x L i h
theorem drop_at {α : Type} {L : List α} {i : Nat} {x : α} (h : L[i]? = some x) : L.drop i = x :: L.drop (i + 1) := by
  obtain ⟨hi, rfl⟩ := List.getElem?_eq_some_iff.1 h
  rw [List.drop_eq_getElem_cons hi]

set_option maxHeartbeats 2000000 in
theorem f26_ok (X : Ext) (E : List Nd) (n c : Nat) (ow : Bool) (sz : Nat) (σ : Heap) (hl : look σ n = some ⟨E.flatMap Nd.cells, ow, sz⟩) (ht : ∀ x ∈ E, x.name.length ≤ 140737488351232) (la : Nat) (hla : la = E.length) (hz : E.length ≤ 140737488351232) :
    CW Tryd.prog X 26 [.slice (some ⟨n, 0, none⟩) la c] σ fun v σ' => v = faultV (exprFault E) ∧ σ <+: σ' := by
  subst hla
  refine cw_in Tryd.func26 rfl Tryd.ntmps26 (rs := [.cell 2 26]) rfl (by kernel_rfl) (by exact Nat.le_of_ble_eq_true rfl) ?_
  have hn : n < σ.length := look_lt hl
  have hel := Nd.len E
  by_cases h0 : E.length = 0
  · simp only [go_sem, ↓reduceIte, Nat.reduceEqDiff, Nat.reduceAdd, Nat.reduceMul, Nat.reduceLT, Nat.reduceLeDiff, Int.reduceLT, Int.reduceLE, Int.reduceNeg, Int.reduceAdd, Int.reduceSub, Int.reduceMul, Int.reduceToNat, Int.reduceEq, Int.reduceNe, Int.cast_ofNat_Int, Int.natCast_one, Int.natCast_zero, Int.natCast_add, reduceCtorEq, show (E.length : Int) = 0 by omega]
    refine ⟨?_, List.prefix_append _ _⟩
    rw [exprFault, if_pos (.inl h0)]
    rfl
  by_cases h60 : 60 < E.length
  · simp only [go_sem, ↓reduceIte, Nat.reduceEqDiff, Nat.reduceAdd, Nat.reduceMul, Nat.reduceLT, Nat.reduceLeDiff, Int.reduceLT, Int.reduceLE, Int.reduceNeg, Int.reduceAdd, Int.reduceSub, Int.reduceMul, Int.reduceToNat, Int.reduceEq, Int.reduceNe, Int.cast_ofNat_Int, Int.natCast_one, Int.natCast_zero, Int.natCast_add, reduceCtorEq, show ¬ (E.length : Int) = 0 by omega, show (60 : Int) < (E.length : Int) by omega]
    refine ⟨?_, List.prefix_append _ _⟩
    rw [exprFault, if_pos (.inr h60)]
    rfl
  simp only [go_sem, ↓reduceIte, Nat.reduceEqDiff, Nat.reduceAdd, Nat.reduceMul, Nat.reduceLT, Nat.reduceLeDiff, Int.reduceLT, Int.reduceLE, Int.reduceNeg, Int.reduceAdd, Int.reduceSub, Int.reduceMul, Int.reduceToNat, Int.reduceEq, Int.reduceNe, Int.cast_ofNat_Int, Int.natCast_one, Int.natCast_zero, Int.natCast_add, reduceCtorEq, show ¬ (E.length : Int) = 0 by omega, show ¬ (60 : Int) < (E.length : Int) by omega]
  have he : exprFault E = firstE 0 E := by rw [exprFault, if_neg (by omega)]
  rw [he]
  refine LW_run (fun k T ρ => ∃ (i : Nat) (τ : Heap), i + k = E.length ∧ ρ = σ ++ some ⟨[.int .i64 0, .int .i64 0], true, 0⟩ :: τ ∧ T 2 = .pointer (some ⟨σ.length, 0, none⟩) ∧ T 15 = .slice (some ⟨n, 0, none⟩) E.length c ∧ T 16 = .int .i64 E.length ∧ T 17 = .int .i64 i
      ∧ firstE 0 E = firstE i (E.drop i)) E.length ⟨0, [], by simp, rfl, rfl, rfl, rfl, rfl, rfl⟩ ?_
  rintro k T _ ⟨i, τ, hk, rfl, t2, t15, t16, t17, hv⟩
  simp only [go_sem, ↓reduceIte, Nat.reduceEqDiff, Nat.reduceAdd, Nat.reduceMul, Nat.reduceLT, Nat.reduceLeDiff, Int.reduceLT, Int.reduceLE, Int.reduceNeg, Int.reduceAdd, Int.reduceSub, Int.reduceMul, Int.reduceToNat, Int.reduceEq, Int.reduceNe, Int.cast_ofNat_Int, Int.natCast_one, Int.natCast_zero, Int.natCast_add, reduceCtorEq, t2, t15, t16, t17]
  refine fork_dec (fun _ => ?_) (fun _ => ?_)
  · rename_i hi
    obtain ⟨x, hx⟩ : ∃ x, E[i]? = some x := ⟨_, List.getElem?_eq_getElem (by omega)⟩
    have hw : IntKind.i64.wrap ((i : Int) + 1) = (i : Int) + 1 := wrap64 (by omega)
    have hnm := ht x (List.mem_of_getElem? hx)
    rw [drop_at hx, firstE] at hv
    have bad : ∀ e : Int, e ≠ 0 → nodeErr x i = e → firstE 0 E = (e, (i : Int)) := fun e h1 h2 => by rw [hv, h2, if_pos h1]
    have good : nodeErr x i = 0 → firstE 0 E = firstE (i + 1) (E.drop (i + 1)) := fun h2 => by rw [hv, h2, if_neg (by simp)]
    have hie : (if (i : Int) < (E.length : Int) then True else False) := by rw [if_pos hi]; trivial
    by_cases k1 : x.kind < 1 ∨ 14 < x.kind
    · have e4 := bad 4 (by omega) (by rw [nodeErr, if_pos k1])
      by_cases k2 : x.kind < 1
      · simp only [go_sem, ↓reduceIte, Nat.reduceEqDiff, Nat.reduceAdd, Nat.reduceMul, Nat.reduceLT, Nat.reduceLeDiff, Int.reduceLT, Int.reduceLE, Int.reduceNeg, Int.reduceAdd, Int.reduceSub, Int.reduceMul, Int.reduceToNat, Int.reduceEq, Int.reduceNe, Int.cast_ofNat_Int, Int.natCast_one, Int.natCast_zero, Int.natCast_add, reduceCtorEq, t2, t15, t16, t17, hi, look_app_lt hn, hl, Nd.take hx, hel, show i * 5 + 5 ≤ E.length * 5 by omega, Nd.cells, k2]
        rw [e4]
        exact ⟨rfl, List.prefix_append _ _⟩
      · simp only [go_sem, ↓reduceIte, Nat.reduceEqDiff, Nat.reduceAdd, Nat.reduceMul, Nat.reduceLT, Nat.reduceLeDiff, Int.reduceLT, Int.reduceLE, Int.reduceNeg, Int.reduceAdd, Int.reduceSub, Int.reduceMul, Int.reduceToNat, Int.reduceEq, Int.reduceNe, Int.cast_ofNat_Int, Int.natCast_one, Int.natCast_zero, Int.natCast_add, reduceCtorEq, t2, t15, t16, t17, hi, look_app_lt hn, hl, Nd.take hx, hel, show i * 5 + 5 ≤ E.length * 5 by omega, Nd.cells, k2, show 14 < x.kind by omega]
        rw [e4]
        exact ⟨rfl, List.prefix_append _ _⟩
    have k1a : ¬ x.kind < 1 := by omega
    have k1b : ¬ 14 < x.kind := by omega
    have ne1 : nodeErr x i = if x.kind = 1 ∧ (x.value < 0 ∨ 4294967296 ≤ x.value) then 3
        else if x.kind = 2 ∧ nameOk x.name = false then 12
        else if (2 < x.kind ∧ (x.left < 0 ∨ (i : Int) ≤ x.left)) ∨ (4 < x.kind ∧ (x.right < 0 ∨ (i : Int) ≤ x.right)) then 5 else 0 := by rw [nodeErr, if_neg k1]
    rw [ne1] at bad good
    by_cases q1 : x.kind = 1
    · by_cases q2 : x.value < 0
      · simp only [go_sem, ↓reduceIte, Nat.reduceEqDiff, Nat.reduceAdd, Nat.reduceMul, Nat.reduceLT, Nat.reduceLeDiff, Int.reduceLT, Int.reduceLE, Int.reduceNeg, Int.reduceAdd, Int.reduceSub, Int.reduceMul, Int.reduceToNat, Int.reduceEq, Int.reduceNe, Int.cast_ofNat_Int, Int.natCast_one, Int.natCast_zero, Int.natCast_add, reduceCtorEq, t2, t15, t16, t17, hi, look_app_lt hn, hl, Nd.take hx, hel, show i * 5 + 5 ≤ E.length * 5 by omega, Nd.cells, q1, q2]
        rw [bad 3 (by omega) (by rw [if_pos (by omega)])]
        exact ⟨rfl, List.prefix_append _ _⟩
      · by_cases q3 : 4294967296 ≤ x.value
        · simp only [go_sem, ↓reduceIte, Nat.reduceEqDiff, Nat.reduceAdd, Nat.reduceMul, Nat.reduceLT, Nat.reduceLeDiff, Int.reduceLT, Int.reduceLE, Int.reduceNeg, Int.reduceAdd, Int.reduceSub, Int.reduceMul, Int.reduceToNat, Int.reduceEq, Int.reduceNe, Int.cast_ofNat_Int, Int.natCast_one, Int.natCast_zero, Int.natCast_add, reduceCtorEq, t2, t15, t16, t17, hi, look_app_lt hn, hl, Nd.take hx, hel, show i * 5 + 5 ≤ E.length * 5 by omega, Nd.cells, q1, q2, q3]
          rw [bad 3 (by omega) (by rw [if_pos (by omega)])]
          exact ⟨rfl, List.prefix_append _ _⟩
        · simp only [go_sem, ↓reduceIte, Nat.reduceEqDiff, Nat.reduceAdd, Nat.reduceMul, Nat.reduceLT, Nat.reduceLeDiff, Int.reduceLT, Int.reduceLE, Int.reduceNeg, Int.reduceAdd, Int.reduceSub, Int.reduceMul, Int.reduceToNat, Int.reduceEq, Int.reduceNe, Int.cast_ofNat_Int, Int.natCast_one, Int.natCast_zero, Int.natCast_add, reduceCtorEq, t2, t15, t16, t17, hi, look_app_lt hn, hl, Nd.take hx, hel, show i * 5 + 5 ≤ E.length * 5 by omega, Nd.cells, q1, q2, q3, hw]
          refine ⟨k - 1, by omega, i + 1, _, by omega, rfl, ?_⟩
          (repeat' (first | exact rfl | apply And.intro))
          exact good (by rw [if_neg (by omega), if_neg (by omega), if_neg (by omega)])
    by_cases q2 : x.kind = 2
    · simp only [go_sem, ↓reduceIte, Nat.reduceEqDiff, Nat.reduceAdd, Nat.reduceMul, Nat.reduceLT, Nat.reduceLeDiff, Int.reduceLT, Int.reduceLE, Int.reduceNeg, Int.reduceAdd, Int.reduceSub, Int.reduceMul, Int.reduceToNat, Int.reduceEq, Int.reduceNe, Int.cast_ofNat_Int, Int.natCast_one, Int.natCast_zero, Int.natCast_add, reduceCtorEq, t2, t15, t16, t17, hi, look_app_lt hn, hl, Nd.take hx, hel, show i * 5 + 5 ≤ E.length * 5 by omega, Nd.cells, q2]
      refine (f55_ok X x.name hnm _).mono ?_
      rintro _ _ ⟨rfl, rfl⟩
      cases hnk : nameOk x.name with
      | false =>
        simp only [go_sem, ↓reduceIte, Nat.reduceEqDiff, Nat.reduceAdd, Nat.reduceMul, Nat.reduceLT, Nat.reduceLeDiff, Int.reduceLT, Int.reduceLE, Int.reduceNeg, Int.reduceAdd, Int.reduceSub, Int.reduceMul, Int.reduceToNat, Int.reduceEq, Int.reduceNe, Int.cast_ofNat_Int, Int.natCast_one, Int.natCast_zero, Int.natCast_add, reduceCtorEq, t2, t15, t16, t17, q2]
        rw [bad 12 (by omega) (by rw [if_neg (by omega), if_pos ⟨q2, hnk⟩])]
        exact ⟨rfl, List.prefix_append _ _⟩
      | true =>
        simp only [go_sem, ↓reduceIte, Nat.reduceEqDiff, Nat.reduceAdd, Nat.reduceMul, Nat.reduceLT, Nat.reduceLeDiff, Int.reduceLT, Int.reduceLE, Int.reduceNeg, Int.reduceAdd, Int.reduceSub, Int.reduceMul, Int.reduceToNat, Int.reduceEq, Int.reduceNe, Int.cast_ofNat_Int, Int.natCast_one, Int.natCast_zero, Int.natCast_add, reduceCtorEq, t2, t15, t16, t17, q2, hw]
        refine ⟨k - 1, by omega, i + 1, _, by omega, rfl, ?_⟩
        (repeat' (first | exact rfl | apply And.intro))
        exact good (by rw [if_neg (by omega), if_neg (by rw [hnk]; simp), if_neg (by omega)])
    rw [if_neg (by omega), if_neg (by omega)] at bad good
    by_cases q5 : (2 < x.kind ∧ (x.left < 0 ∨ (i : Int) ≤ x.left)) ∨ (4 < x.kind ∧ (x.right < 0 ∨ (i : Int) ≤ x.right))
    · have e5 := bad 5 (by omega) (by rw [if_pos q5])
      rw [e5]
      by_cases p1 : x.left < 0
      · simp only [go_sem, ↓reduceIte, Nat.reduceEqDiff, Nat.reduceAdd, Nat.reduceMul, Nat.reduceLT, Nat.reduceLeDiff, Int.reduceLT, Int.reduceLE, Int.reduceNeg, Int.reduceAdd, Int.reduceSub, Int.reduceMul, Int.reduceToNat, Int.reduceEq, Int.reduceNe, Int.cast_ofNat_Int, Int.natCast_one, Int.natCast_zero, Int.natCast_add, reduceCtorEq, t2, t15, t16, t17, hi, look_app_lt hn, hl, Nd.take hx, hel, show i * 5 + 5 ≤ E.length * 5 by omega, Nd.cells, k1a, k1b, q1, q2, show 2 < x.kind by omega, p1]
        exact ⟨rfl, List.prefix_append _ _⟩
      · by_cases p2 : (i : Int) ≤ x.left
        · simp only [go_sem, ↓reduceIte, Nat.reduceEqDiff, Nat.reduceAdd, Nat.reduceMul, Nat.reduceLT, Nat.reduceLeDiff, Int.reduceLT, Int.reduceLE, Int.reduceNeg, Int.reduceAdd, Int.reduceSub, Int.reduceMul, Int.reduceToNat, Int.reduceEq, Int.reduceNe, Int.cast_ofNat_Int, Int.natCast_one, Int.natCast_zero, Int.natCast_add, reduceCtorEq, t2, t15, t16, t17, hi, look_app_lt hn, hl, Nd.take hx, hel, show i * 5 + 5 ≤ E.length * 5 by omega, Nd.cells, k1a, k1b, q1, q2, show 2 < x.kind by omega, p1, p2]
          exact ⟨rfl, List.prefix_append _ _⟩
        · by_cases p3 : x.right < 0
          · simp only [go_sem, ↓reduceIte, Nat.reduceEqDiff, Nat.reduceAdd, Nat.reduceMul, Nat.reduceLT, Nat.reduceLeDiff, Int.reduceLT, Int.reduceLE, Int.reduceNeg, Int.reduceAdd, Int.reduceSub, Int.reduceMul, Int.reduceToNat, Int.reduceEq, Int.reduceNe, Int.cast_ofNat_Int, Int.natCast_one, Int.natCast_zero, Int.natCast_add, reduceCtorEq, t2, t15, t16, t17, hi, look_app_lt hn, hl, Nd.take hx, hel, show i * 5 + 5 ≤ E.length * 5 by omega, Nd.cells, k1a, k1b, q1, q2, show 2 < x.kind by omega, p1, p2, p3, show 4 < x.kind by omega]
            exact ⟨rfl, List.prefix_append _ _⟩
          · simp only [go_sem, ↓reduceIte, Nat.reduceEqDiff, Nat.reduceAdd, Nat.reduceMul, Nat.reduceLT, Nat.reduceLeDiff, Int.reduceLT, Int.reduceLE, Int.reduceNeg, Int.reduceAdd, Int.reduceSub, Int.reduceMul, Int.reduceToNat, Int.reduceEq, Int.reduceNe, Int.cast_ofNat_Int, Int.natCast_one, Int.natCast_zero, Int.natCast_add, reduceCtorEq, t2, t15, t16, t17, hi, look_app_lt hn, hl, Nd.take hx, hel, show i * 5 + 5 ≤ E.length * 5 by omega, Nd.cells, k1a, k1b, q1, q2, show 2 < x.kind by omega, p1, p2, p3, show 4 < x.kind by omega, show (i : Int) ≤ x.right by omega]
            exact ⟨rfl, List.prefix_append _ _⟩
    · have e0 := good (by rw [if_neg q5])
      by_cases p4 : 4 < x.kind
      · simp only [go_sem, ↓reduceIte, Nat.reduceEqDiff, Nat.reduceAdd, Nat.reduceMul, Nat.reduceLT, Nat.reduceLeDiff, Int.reduceLT, Int.reduceLE, Int.reduceNeg, Int.reduceAdd, Int.reduceSub, Int.reduceMul, Int.reduceToNat, Int.reduceEq, Int.reduceNe, Int.cast_ofNat_Int, Int.natCast_one, Int.natCast_zero, Int.natCast_add, reduceCtorEq, t2, t15, t16, t17, hi, look_app_lt hn, hl, Nd.take hx, hel, show i * 5 + 5 ≤ E.length * 5 by omega, Nd.cells, k1a, k1b, q1, q2, show 2 < x.kind by omega, show ¬ x.left < 0 by omega, show ¬ (i : Int) ≤ x.left by omega, p4, show ¬ x.right < 0 by omega, show ¬ (i : Int) ≤ x.right by omega, hw]
        refine ⟨k - 1, by omega, i + 1, _, by omega, rfl, ?_⟩
        (repeat' (first | exact rfl | apply And.intro))
        exact e0
      · simp only [go_sem, ↓reduceIte, Nat.reduceEqDiff, Nat.reduceAdd, Nat.reduceMul, Nat.reduceLT, Nat.reduceLeDiff, Int.reduceLT, Int.reduceLE, Int.reduceNeg, Int.reduceAdd, Int.reduceSub, Int.reduceMul, Int.reduceToNat, Int.reduceEq, Int.reduceNe, Int.cast_ofNat_Int, Int.natCast_one, Int.natCast_zero, Int.natCast_add, reduceCtorEq, t2, t15, t16, t17, hi, look_app_lt hn, hl, Nd.take hx, hel, show i * 5 + 5 ≤ E.length * 5 by omega, Nd.cells, k1a, k1b, q1, q2, show 2 < x.kind by omega, show ¬ x.left < 0 by omega, show ¬ (i : Int) ≤ x.left by omega, p4, hw]
        refine ⟨k - 1, by omega, i + 1, _, by omega, rfl, ?_⟩
        (repeat' (first | exact rfl | apply And.intro))
        exact e0
  · rename_i hi
    simp only [go_sem, ↓reduceIte, Nat.reduceEqDiff, Nat.reduceAdd, Nat.reduceMul, Nat.reduceLT, Nat.reduceLeDiff, Int.reduceLT, Int.reduceLE, Int.reduceNeg, Int.reduceAdd, Int.reduceSub, Int.reduceMul, Int.reduceToNat, Int.reduceEq, Int.reduceNe, Int.cast_ofNat_Int, Int.natCast_one, Int.natCast_zero, Int.natCast_add, reduceCtorEq, t2, t15, t16, t17, hi]
    rw [hv, show E.drop i = [] from List.drop_eq_nil_of_le (by omega)]
    exact ⟨rfl, List.prefix_append _ _⟩
end Go.Proofs.YtkgdkommahgakaaDoor.Abs

namespace Go.Proofs.YtkgdkommahgakaaDoor.Abs
open Go Go.RowKit Gram
set_option linter.unusedVariables false
set_option linter.unusedSimpArgs false
set_option maxRecDepth 100000

/-! ### linear values -/
structure Lin where
  sym : List UInt8
  minus : List UInt8
  num : Int
deriving DecidableEq
def Lin.cells (x : Lin) : List Value := [.string (str x.sym), .string (str x.minus), .int .i64 x.num]
def Lin.zero : Lin := ⟨[], [], 0⟩
def Lin.flat (x : Lin) : Bool := decide (x.sym = []) && decide (x.minus = [])
theorem f82_ok (X : Ext) (x : Lin) (σ : Heap) : CW Tryd.prog X 82 [.agg x.cells.toArray] σ fun v σ' => v = .bool x.flat ∧ σ <+: σ' := by
  refine cw_in Tryd.func82 rfl Tryd.ntmps82 (rs := [.tmp 2]) rfl (by kernel_rfl) (by exact Nat.le_of_ble_eq_true rfl) ?_
  unfold Lin.flat
  by_cases h1 : x.sym = []
  · simp only [go_sem, ↓reduceIte, Nat.reduceEqDiff, Nat.reduceAdd, Nat.reduceMul, Nat.reduceLT, Nat.reduceLeDiff, Int.reduceLT, Int.reduceLE, Int.reduceNeg, Int.reduceAdd, Int.reduceSub, Int.reduceMul, Int.reduceToNat, Int.reduceEq, Int.reduceNe, Int.cast_ofNat_Int, Int.natCast_one, Int.natCast_zero, Int.natCast_add, reduceCtorEq, Lin.cells, h1]
    exact List.prefix_append _ _
  · simp only [go_sem, ↓reduceIte, Nat.reduceEqDiff, Nat.reduceAdd, Nat.reduceMul, Nat.reduceLT, Nat.reduceLeDiff, Int.reduceLT, Int.reduceLE, Int.reduceNeg, Int.reduceAdd, Int.reduceSub, Int.reduceMul, Int.reduceToNat, Int.reduceEq, Int.reduceNe, Int.cast_ofNat_Int, Int.natCast_one, Int.natCast_zero, Int.natCast_add, reduceCtorEq, Lin.cells, h1]
    exact List.prefix_append _ _
/-- A name against the subtracted ones: what is left of each. -/
def cancel (s m0 m1 : List UInt8) : List UInt8 × List UInt8 × List UInt8 := if s = [] then (s, m0, m1) else if m0 = s then ([], [], m1) else if m1 = s then ([], m0, []) else (s, m0, m1)
def turn (b : Lin) (sign : Int) : Lin := if sign < 0 then ⟨b.minus, b.sym, -b.num⟩ else b
def sumL (a b : Lin) : Option Lin :=
  let c := cancel a.sym a.minus b.minus
  let d := cancel b.sym c.2.1 c.2.2
  if (c.1 ≠ [] ∧ d.1 ≠ []) ∨ (d.2.1 ≠ [] ∧ d.2.2 ≠ []) then none else some ⟨c.1 ++ d.1, d.2.1 ++ d.2.2, a.num + b.num⟩
def addL (a b : Lin) (sign : Int) : Option Lin := sumL a (turn b sign)
/-- Numbers and names that don't go too far. -/
def Lin.small (x : Lin) : Prop := x.sym.length ≤ 1000 ∧ x.minus.length ≤ 1000 ∧ -1099511627776 ≤ x.num ∧ x.num ≤ 1099511627776
theorem cancel_len {s m0 m1 : List UInt8} {k : Nat} (h : s.length ≤ k ∧ m0.length ≤ k ∧ m1.length ≤ k) : (cancel s m0 m1).1.length ≤ k ∧ (cancel s m0 m1).2.1.length ≤ k ∧ (cancel s m0 m1).2.2.length ≤ k := by
  unfold cancel
  repeat' split
  all_goals simp <;> omega
theorem idx_two (m0 m1 s : List UInt8) : idx [m0, m1] s = if m0 = s then 0 else if m1 = s then 1 else -1 := by
  simp only [idx]
  split
  · rfl
  · split <;> simp

def addHeap (σ : Heap) (A B O : Option Blk) (p0 p1 m0 m1 : List UInt8) : Heap := σ ++ [A, B, O, some ⟨[.string (str p0), .string (str p1)], true, 1⟩, some ⟨[.string (str m0), .string (str m1)], true, 1⟩]
/-- How far the cancelling is. -/
def stage (a c : Lin) (i : Nat) (p0 p1 m0 m1 : List UInt8) : Prop :=
  (i = 0 ∧ p0 = a.sym ∧ p1 = c.sym ∧ m0 = a.minus ∧ m1 = c.minus) ∨
  (i = 1 ∧ (p0, m0, m1) = cancel a.sym a.minus c.minus ∧ p1 = c.sym) ∨
  (i = 2 ∧ ∃ n0 n1, (p0, n0, n1) = cancel a.sym a.minus c.minus ∧ (p1, m0, m1) = cancel c.sym n0 n1)
theorem stage_len {a c : Lin} {i : Nat} {p0 p1 m0 m1 : List UInt8} (h : stage a c i p0 p1 m0 m1) (ha : a.sym.length ≤ 1000 ∧ a.minus.length ≤ 1000) (hc : c.sym.length ≤ 1000 ∧ c.minus.length ≤ 1000) : p0.length ≤ 1000 ∧ p1.length ≤ 1000 ∧ m0.length ≤ 1000 ∧ m1.length ≤ 1000 := by
  have h1 := cancel_len (s := a.sym) (m0 := a.minus) (m1 := c.minus) (k := 1000) ⟨ha.1, ha.2, hc.2⟩
  rcases h with ⟨_, rfl, rfl, rfl, rfl⟩ | ⟨_, h, rfl⟩ | ⟨_, n0, n1, h, h2⟩
  · exact ⟨ha.1, hc.1, ha.2, hc.2⟩
  · rw [← h] at h1
    exact ⟨h1.1, hc.1, h1.2.1, h1.2.2⟩
  · rw [← h] at h1
    have h3 := cancel_len (s := c.sym) (m0 := n0) (m1 := n1) (k := 1000) ⟨hc.1, h1.2.1, h1.2.2⟩
    rw [← h2] at h3
    exact ⟨h1.1, h3.1, h3.2.1, h3.2.2⟩
set_option maxHeartbeats 2000000 in
theorem f81_ok (X : Ext) (a b : Lin) (sign : Int) (ha : a.small) (hb : b.small) (σ : Heap) : CW Tryd.prog X 81 [.agg a.cells.toArray, .agg b.cells.toArray, .int .i64 sign] σ fun v σ' =>
    v = .tuple #[.agg ((addL a b sign).getD Lin.zero).cells.toArray, .bool (addL a b sign).isSome] ∧ σ <+: σ' := by
  obtain ⟨a1, a2, a3, a4⟩ := ha
  obtain ⟨b1, b2, b3, b4⟩ := hb
  refine cw_in Tryd.func81 rfl Tryd.ntmps81 (rs := [.cell 6 40, .tmp 7]) rfl (by kernel_rfl) (by exact Nat.le_of_ble_eq_true rfl) ?_
  by_cases hs : sign < 0
  · obtain ⟨c, hc⟩ : ∃ c, turn b sign = c := ⟨_, rfl⟩
    have hc1 : c = ⟨b.minus, b.sym, 0 - b.num⟩ := by rw [← hc, turn, if_pos hs]; simp
    have hcl : c.sym.length ≤ 1000 ∧ c.minus.length ≤ 1000 := by rw [hc1]; exact ⟨b2, b1⟩
    have hcn : -1099511627776 ≤ c.num ∧ c.num ≤ 1099511627776 := by rw [hc1]; simp only; omega
    simp only [go_sem, ↓reduceIte, Nat.reduceEqDiff, Nat.reduceAdd, Nat.reduceMul, Nat.reduceLT, Nat.reduceLeDiff, Int.reduceLT, Int.reduceLE, Int.reduceNeg, Int.reduceAdd, Int.reduceSub, Int.reduceMul, Int.reduceToNat, Int.reduceEq, Int.reduceNe, Int.cast_ofNat_Int, Int.natCast_one, Int.natCast_zero, Int.natCast_add, reduceCtorEq, Lin.cells, hs, wrap64 (show -9223372036854775808 ≤ 0 - b.num ∧ 0 - b.num ≤ 9223372036854775807 by omega)]
    have hadd : addL a b sign = sumL a c := by rw [addL, hc]
    rw [hadd]
    clear hadd
    refine LW_run (fun k T ρ => ∃ (i : Nat) (p0 p1 m0 m1 : List UInt8), i + k = 2 ∧ stage a c i p0 p1 m0 m1 ∧ ρ = addHeap σ (some ⟨a.cells, true, 0⟩) (some ⟨c.cells, true, 0⟩) (some ⟨Lin.zero.cells, true, 0⟩) p0 p1 m0 m1
      ∧ T 3 = .pointer (some ⟨σ.length, 0, none⟩) ∧ T 4 = .pointer (some ⟨σ.length + 1, 0, none⟩) ∧ T 6 = .pointer (some ⟨σ.length + 2, 0, none⟩) ∧ T 8 = .slice (some ⟨σ.length + 3, 0, none⟩) 2 2 ∧ T 9 = .slice (some ⟨σ.length + 4, 0, none⟩) 2 2 ∧ T 33 = .slice (some ⟨σ.length + 3, 0, none⟩) 2 2 ∧ T 34 = .int .i64 2 ∧ T 35 = .int .i64 i) 2
      ⟨0, a.sym, c.sym, a.minus, c.minus, rfl, .inl ⟨rfl, rfl, rfl, rfl, rfl⟩, by rw [hc1]; rfl, rfl, rfl, rfl, rfl, rfl, rfl, rfl, rfl⟩ ?_
    rintro k T ρ ⟨i, p0, p1, m0, m1, hk, hst, rfl, t3, t4, t6, t8, t9, t33, t34, t35⟩
    have hlen := stage_len hst ⟨a1, a2⟩ hcl
    rcases hst with ⟨rfl, rfl, rfl, rfl, rfl⟩ | ⟨rfl, h1, rfl⟩ | ⟨rfl, n0, n1, h1, h2⟩
    · simp only [go_sem, ↓reduceIte, Nat.reduceEqDiff, Nat.reduceAdd, Nat.reduceMul, Nat.reduceLT, Nat.reduceLeDiff, Int.reduceLT, Int.reduceLE, Int.reduceNeg, Int.reduceAdd, Int.reduceSub, Int.reduceMul, Int.reduceToNat, Int.reduceEq, Int.reduceNe, Int.cast_ofNat_Int, Int.natCast_one, Int.natCast_zero, Int.natCast_add, reduceCtorEq, addHeap, t3, t4, t6, t8, t9, t33, t34, t35]
      refine (f102_ok X [a.minus, c.minus] a.sym _ 0 2 true 1 _ (by rw [look_app_add]; rfl) (by simp)).mono ?_
      rintro _ _ ⟨rfl, rfl⟩
      rw [idx_two]
      by_cases e1 : a.sym = []
      · have hcc : cancel a.sym a.minus c.minus = (a.sym, a.minus, c.minus) := by rw [cancel, if_pos e1]
        simp only [go_sem, ↓reduceIte, Nat.reduceEqDiff, Nat.reduceAdd, Nat.reduceMul, Nat.reduceLT, Nat.reduceLeDiff, Int.reduceLT, Int.reduceLE, Int.reduceNeg, Int.reduceAdd, Int.reduceSub, Int.reduceMul, Int.reduceToNat, Int.reduceEq, Int.reduceNe, Int.cast_ofNat_Int, Int.natCast_one, Int.natCast_zero, Int.natCast_add, reduceCtorEq, t3, t4, t6, t8, t9, t33, t34, t35, eq_true e1, show IntKind.i64.wrap 1 = 1 by decide, show IntKind.i64.wrap 2 = 2 by decide]
        refine ⟨k - 1, by omega, 1, a.sym, c.sym, a.minus, c.minus, by omega, .inr (.inl ⟨rfl, hcc.symm, rfl⟩), ?_⟩
        (repeat' (first | exact rfl | apply And.intro))
      · by_cases e2 : a.minus = a.sym
        · have hcc : cancel a.sym a.minus c.minus = ([], [], c.minus) := by rw [cancel, if_neg e1, if_pos e2]
          simp only [go_sem, ↓reduceIte, Nat.reduceEqDiff, Nat.reduceAdd, Nat.reduceMul, Nat.reduceLT, Nat.reduceLeDiff, Int.reduceLT, Int.reduceLE, Int.reduceNeg, Int.reduceAdd, Int.reduceSub, Int.reduceMul, Int.reduceToNat, Int.reduceEq, Int.reduceNe, Int.cast_ofNat_Int, Int.natCast_one, Int.natCast_zero, Int.natCast_add, reduceCtorEq, t3, t4, t6, t8, t9, t33, t34, t35, eq_false e1, eq_true e2, show IntKind.i64.wrap 1 = 1 by decide, show IntKind.i64.wrap 2 = 2 by decide]
          refine ⟨k - 1, by omega, 1, [], c.sym, [], c.minus, by omega, .inr (.inl ⟨rfl, hcc.symm, rfl⟩), ?_⟩
          (repeat' (first | exact rfl | apply And.intro))
        · by_cases e3 : c.minus = a.sym
          · have hcc : cancel a.sym a.minus c.minus = ([], a.minus, []) := by rw [cancel, if_neg e1, if_neg e2, if_pos e3]
            simp only [go_sem, ↓reduceIte, Nat.reduceEqDiff, Nat.reduceAdd, Nat.reduceMul, Nat.reduceLT, Nat.reduceLeDiff, Int.reduceLT, Int.reduceLE, Int.reduceNeg, Int.reduceAdd, Int.reduceSub, Int.reduceMul, Int.reduceToNat, Int.reduceEq, Int.reduceNe, Int.cast_ofNat_Int, Int.natCast_one, Int.natCast_zero, Int.natCast_add, reduceCtorEq, t3, t4, t6, t8, t9, t33, t34, t35, eq_false e1, eq_false e2, eq_true e3, show IntKind.i64.wrap 1 = 1 by decide, show IntKind.i64.wrap 2 = 2 by decide]
            refine ⟨k - 1, by omega, 1, [], c.sym, a.minus, [], by omega, .inr (.inl ⟨rfl, hcc.symm, rfl⟩), ?_⟩
            (repeat' (first | exact rfl | apply And.intro))
          · have hcc : cancel a.sym a.minus c.minus = (a.sym, a.minus, c.minus) := by rw [cancel, if_neg e1, if_neg e2, if_neg e3]
            simp only [go_sem, ↓reduceIte, Nat.reduceEqDiff, Nat.reduceAdd, Nat.reduceMul, Nat.reduceLT, Nat.reduceLeDiff, Int.reduceLT, Int.reduceLE, Int.reduceNeg, Int.reduceAdd, Int.reduceSub, Int.reduceMul, Int.reduceToNat, Int.reduceEq, Int.reduceNe, Int.cast_ofNat_Int, Int.natCast_one, Int.natCast_zero, Int.natCast_add, reduceCtorEq, t3, t4, t6, t8, t9, t33, t34, t35, eq_false e1, eq_false e2, eq_false e3, show IntKind.i64.wrap 1 = 1 by decide, show IntKind.i64.wrap 2 = 2 by decide]
            refine ⟨k - 1, by omega, 1, a.sym, c.sym, a.minus, c.minus, by omega, .inr (.inl ⟨rfl, hcc.symm, rfl⟩), ?_⟩
            (repeat' (first | exact rfl | apply And.intro))
    · simp only [go_sem, ↓reduceIte, Nat.reduceEqDiff, Nat.reduceAdd, Nat.reduceMul, Nat.reduceLT, Nat.reduceLeDiff, Int.reduceLT, Int.reduceLE, Int.reduceNeg, Int.reduceAdd, Int.reduceSub, Int.reduceMul, Int.reduceToNat, Int.reduceEq, Int.reduceNe, Int.cast_ofNat_Int, Int.natCast_one, Int.natCast_zero, Int.natCast_add, reduceCtorEq, addHeap, t3, t4, t6, t8, t9, t33, t34, t35]
      refine (f102_ok X [m0, m1] c.sym _ 0 2 true 1 _ (by rw [look_app_add]; rfl) (by simp)).mono ?_
      rintro _ _ ⟨rfl, rfl⟩
      rw [idx_two]
      by_cases e1 : c.sym = []
      · have hcc : cancel c.sym m0 m1 = (c.sym, m0, m1) := by rw [cancel, if_pos e1]
        simp only [go_sem, ↓reduceIte, Nat.reduceEqDiff, Nat.reduceAdd, Nat.reduceMul, Nat.reduceLT, Nat.reduceLeDiff, Int.reduceLT, Int.reduceLE, Int.reduceNeg, Int.reduceAdd, Int.reduceSub, Int.reduceMul, Int.reduceToNat, Int.reduceEq, Int.reduceNe, Int.cast_ofNat_Int, Int.natCast_one, Int.natCast_zero, Int.natCast_add, reduceCtorEq, t3, t4, t6, t8, t9, t33, t34, t35, eq_true e1, show IntKind.i64.wrap 1 = 1 by decide, show IntKind.i64.wrap 2 = 2 by decide]
        refine ⟨k - 1, by omega, 2, p0, c.sym, m0, m1, by omega, .inr (.inr ⟨rfl, _, _, h1, hcc.symm⟩), ?_⟩
        (repeat' (first | exact rfl | apply And.intro))
      · by_cases e2 : m0 = c.sym
        · have hcc : cancel c.sym m0 m1 = ([], [], m1) := by rw [cancel, if_neg e1, if_pos e2]
          simp only [go_sem, ↓reduceIte, Nat.reduceEqDiff, Nat.reduceAdd, Nat.reduceMul, Nat.reduceLT, Nat.reduceLeDiff, Int.reduceLT, Int.reduceLE, Int.reduceNeg, Int.reduceAdd, Int.reduceSub, Int.reduceMul, Int.reduceToNat, Int.reduceEq, Int.reduceNe, Int.cast_ofNat_Int, Int.natCast_one, Int.natCast_zero, Int.natCast_add, reduceCtorEq, t3, t4, t6, t8, t9, t33, t34, t35, eq_false e1, eq_true e2, show IntKind.i64.wrap 1 = 1 by decide, show IntKind.i64.wrap 2 = 2 by decide]
          refine ⟨k - 1, by omega, 2, p0, [], [], m1, by omega, .inr (.inr ⟨rfl, _, _, h1, hcc.symm⟩), ?_⟩
          (repeat' (first | exact rfl | apply And.intro))
        · by_cases e3 : m1 = c.sym
          · have hcc : cancel c.sym m0 m1 = ([], m0, []) := by rw [cancel, if_neg e1, if_neg e2, if_pos e3]
            simp only [go_sem, ↓reduceIte, Nat.reduceEqDiff, Nat.reduceAdd, Nat.reduceMul, Nat.reduceLT, Nat.reduceLeDiff, Int.reduceLT, Int.reduceLE, Int.reduceNeg, Int.reduceAdd, Int.reduceSub, Int.reduceMul, Int.reduceToNat, Int.reduceEq, Int.reduceNe, Int.cast_ofNat_Int, Int.natCast_one, Int.natCast_zero, Int.natCast_add, reduceCtorEq, t3, t4, t6, t8, t9, t33, t34, t35, eq_false e1, eq_false e2, eq_true e3, show IntKind.i64.wrap 1 = 1 by decide, show IntKind.i64.wrap 2 = 2 by decide]
            refine ⟨k - 1, by omega, 2, p0, [], m0, [], by omega, .inr (.inr ⟨rfl, _, _, h1, hcc.symm⟩), ?_⟩
            (repeat' (first | exact rfl | apply And.intro))
          · have hcc : cancel c.sym m0 m1 = (c.sym, m0, m1) := by rw [cancel, if_neg e1, if_neg e2, if_neg e3]
            simp only [go_sem, ↓reduceIte, Nat.reduceEqDiff, Nat.reduceAdd, Nat.reduceMul, Nat.reduceLT, Nat.reduceLeDiff, Int.reduceLT, Int.reduceLE, Int.reduceNeg, Int.reduceAdd, Int.reduceSub, Int.reduceMul, Int.reduceToNat, Int.reduceEq, Int.reduceNe, Int.cast_ofNat_Int, Int.natCast_one, Int.natCast_zero, Int.natCast_add, reduceCtorEq, t3, t4, t6, t8, t9, t33, t34, t35, eq_false e1, eq_false e2, eq_false e3, show IntKind.i64.wrap 1 = 1 by decide, show IntKind.i64.wrap 2 = 2 by decide]
            refine ⟨k - 1, by omega, 2, p0, c.sym, m0, m1, by omega, .inr (.inr ⟨rfl, _, _, h1, hcc.symm⟩), ?_⟩
            (repeat' (first | exact rfl | apply And.intro))
    · have hsum : sumL a c = if (p0 ≠ [] ∧ p1 ≠ []) ∨ (m0 ≠ [] ∧ m1 ≠ []) then none else some ⟨p0 ++ p1, m0 ++ m1, a.num + c.num⟩ := by
        unfold sumL
        rw [← h1]
        simp only
        rw [← h2]
      rw [hsum]
      have hwn : IntKind.i64.wrap (a.num + c.num) = a.num + c.num := wrap64 (by omega)
      have hs1 := sadd (P := Tryd.prog) (t := 9) (show p0.length + p1.length ≤ 9223372036854775807 by omega)
      have hs2 := sadd (P := Tryd.prog) (t := 9) (show m0.length + m1.length ≤ 9223372036854775807 by omega)
      by_cases g1 : p0 = []
      · by_cases g3 : m0 = []
        · rw [if_neg (by simp [g1, g3])]
          simp only [go_sem, ↓reduceIte, Nat.reduceEqDiff, Nat.reduceAdd, Nat.reduceMul, Nat.reduceLT, Nat.reduceLeDiff, Int.reduceLT, Int.reduceLE, Int.reduceNeg, Int.reduceAdd, Int.reduceSub, Int.reduceMul, Int.reduceToNat, Int.reduceEq, Int.reduceNe, Int.cast_ofNat_Int, Int.natCast_one, Int.natCast_zero, Int.natCast_add, reduceCtorEq, addHeap, t3, t4, t6, t8, t9, t33, t34, t35, eq_true g1, eq_true g3, Lin.cells, Lin.zero, hs1, hs2, hwn]
          (repeat (refine And.intro ?_ ?_; focus (first | (refine quiet_pre ?_; simp [List.cons_prefix_cons]; done) | (refine quiet_look ?_; kernel_rfl))))
          exact ⟨rfl, List.prefix_append _ _⟩
        · by_cases g4 : m1 = []
          · rw [if_neg (by simp [g1, g4])]
            simp only [go_sem, ↓reduceIte, Nat.reduceEqDiff, Nat.reduceAdd, Nat.reduceMul, Nat.reduceLT, Nat.reduceLeDiff, Int.reduceLT, Int.reduceLE, Int.reduceNeg, Int.reduceAdd, Int.reduceSub, Int.reduceMul, Int.reduceToNat, Int.reduceEq, Int.reduceNe, Int.cast_ofNat_Int, Int.natCast_one, Int.natCast_zero, Int.natCast_add, reduceCtorEq, addHeap, t3, t4, t6, t8, t9, t33, t34, t35, eq_true g1, eq_false g3, eq_true g4, Lin.cells, Lin.zero, hs1, hs2, hwn]
            (repeat (refine And.intro ?_ ?_; focus (first | (refine quiet_pre ?_; simp [List.cons_prefix_cons]; done) | (refine quiet_look ?_; kernel_rfl))))
            exact ⟨rfl, List.prefix_append _ _⟩
          · rw [if_pos (.inr ⟨g3, g4⟩)]
            simp only [go_sem, ↓reduceIte, Nat.reduceEqDiff, Nat.reduceAdd, Nat.reduceMul, Nat.reduceLT, Nat.reduceLeDiff, Int.reduceLT, Int.reduceLE, Int.reduceNeg, Int.reduceAdd, Int.reduceSub, Int.reduceMul, Int.reduceToNat, Int.reduceEq, Int.reduceNe, Int.cast_ofNat_Int, Int.natCast_one, Int.natCast_zero, Int.natCast_add, reduceCtorEq, addHeap, t3, t4, t6, t8, t9, t33, t34, t35, eq_true g1, eq_false g3, eq_false g4, Lin.cells, Lin.zero]
            (repeat (refine And.intro ?_ ?_; focus (first | (refine quiet_pre ?_; simp [List.cons_prefix_cons]; done) | (refine quiet_look ?_; kernel_rfl))))
            exact ⟨rfl, List.prefix_append _ _⟩
      · by_cases g2 : p1 = []
        · by_cases g3 : m0 = []
          · rw [if_neg (by simp [g2, g3])]
            simp only [go_sem, ↓reduceIte, Nat.reduceEqDiff, Nat.reduceAdd, Nat.reduceMul, Nat.reduceLT, Nat.reduceLeDiff, Int.reduceLT, Int.reduceLE, Int.reduceNeg, Int.reduceAdd, Int.reduceSub, Int.reduceMul, Int.reduceToNat, Int.reduceEq, Int.reduceNe, Int.cast_ofNat_Int, Int.natCast_one, Int.natCast_zero, Int.natCast_add, reduceCtorEq, addHeap, t3, t4, t6, t8, t9, t33, t34, t35, eq_false g1, eq_true g2, eq_true g3, Lin.cells, Lin.zero, hs1, hs2, hwn]
            (repeat (refine And.intro ?_ ?_; focus (first | (refine quiet_pre ?_; simp [List.cons_prefix_cons]; done) | (refine quiet_look ?_; kernel_rfl))))
            exact ⟨rfl, List.prefix_append _ _⟩
          · by_cases g4 : m1 = []
            · rw [if_neg (by simp [g2, g4])]
              simp only [go_sem, ↓reduceIte, Nat.reduceEqDiff, Nat.reduceAdd, Nat.reduceMul, Nat.reduceLT, Nat.reduceLeDiff, Int.reduceLT, Int.reduceLE, Int.reduceNeg, Int.reduceAdd, Int.reduceSub, Int.reduceMul, Int.reduceToNat, Int.reduceEq, Int.reduceNe, Int.cast_ofNat_Int, Int.natCast_one, Int.natCast_zero, Int.natCast_add, reduceCtorEq, addHeap, t3, t4, t6, t8, t9, t33, t34, t35, eq_false g1, eq_true g2, eq_false g3, eq_true g4, Lin.cells, Lin.zero, hs1, hs2, hwn]
              (repeat (refine And.intro ?_ ?_; focus (first | (refine quiet_pre ?_; simp [List.cons_prefix_cons]; done) | (refine quiet_look ?_; kernel_rfl))))
              exact ⟨rfl, List.prefix_append _ _⟩
            · rw [if_pos (.inr ⟨g3, g4⟩)]
              simp only [go_sem, ↓reduceIte, Nat.reduceEqDiff, Nat.reduceAdd, Nat.reduceMul, Nat.reduceLT, Nat.reduceLeDiff, Int.reduceLT, Int.reduceLE, Int.reduceNeg, Int.reduceAdd, Int.reduceSub, Int.reduceMul, Int.reduceToNat, Int.reduceEq, Int.reduceNe, Int.cast_ofNat_Int, Int.natCast_one, Int.natCast_zero, Int.natCast_add, reduceCtorEq, addHeap, t3, t4, t6, t8, t9, t33, t34, t35, eq_false g1, eq_true g2, eq_false g3, eq_false g4, Lin.cells, Lin.zero]
              (repeat (refine And.intro ?_ ?_; focus (first | (refine quiet_pre ?_; simp [List.cons_prefix_cons]; done) | (refine quiet_look ?_; kernel_rfl))))
              exact ⟨rfl, List.prefix_append _ _⟩
        · rw [if_pos (.inl ⟨g1, g2⟩)]
          simp only [go_sem, ↓reduceIte, Nat.reduceEqDiff, Nat.reduceAdd, Nat.reduceMul, Nat.reduceLT, Nat.reduceLeDiff, Int.reduceLT, Int.reduceLE, Int.reduceNeg, Int.reduceAdd, Int.reduceSub, Int.reduceMul, Int.reduceToNat, Int.reduceEq, Int.reduceNe, Int.cast_ofNat_Int, Int.natCast_one, Int.natCast_zero, Int.natCast_add, reduceCtorEq, addHeap, t3, t4, t6, t8, t9, t33, t34, t35, eq_false g1, eq_false g2, Lin.cells, Lin.zero]
          (repeat (refine And.intro ?_ ?_; focus (first | (refine quiet_pre ?_; simp [List.cons_prefix_cons]; done) | (refine quiet_look ?_; kernel_rfl))))
          exact ⟨rfl, List.prefix_append _ _⟩
  · obtain ⟨c, hc⟩ : ∃ c, turn b sign = c := ⟨_, rfl⟩
    have hc1 : c = b := by rw [← hc, turn, if_neg hs]
    have hcl : c.sym.length ≤ 1000 ∧ c.minus.length ≤ 1000 := by rw [hc1]; exact ⟨b1, b2⟩
    have hcn : -1099511627776 ≤ c.num ∧ c.num ≤ 1099511627776 := by rw [hc1]; omega
    simp only [go_sem, ↓reduceIte, Nat.reduceEqDiff, Nat.reduceAdd, Nat.reduceMul, Nat.reduceLT, Nat.reduceLeDiff, Int.reduceLT, Int.reduceLE, Int.reduceNeg, Int.reduceAdd, Int.reduceSub, Int.reduceMul, Int.reduceToNat, Int.reduceEq, Int.reduceNe, Int.cast_ofNat_Int, Int.natCast_one, Int.natCast_zero, Int.natCast_add, reduceCtorEq, Lin.cells, hs]
    have hadd : addL a b sign = sumL a c := by rw [addL, hc]
    rw [hadd]
    clear hadd
    refine LW_run (fun k T ρ => ∃ (i : Nat) (p0 p1 m0 m1 : List UInt8), i + k = 2 ∧ stage a c i p0 p1 m0 m1 ∧ ρ = addHeap σ (some ⟨a.cells, true, 0⟩) (some ⟨c.cells, true, 0⟩) (some ⟨Lin.zero.cells, true, 0⟩) p0 p1 m0 m1
      ∧ T 3 = .pointer (some ⟨σ.length, 0, none⟩) ∧ T 4 = .pointer (some ⟨σ.length + 1, 0, none⟩) ∧ T 6 = .pointer (some ⟨σ.length + 2, 0, none⟩) ∧ T 8 = .slice (some ⟨σ.length + 3, 0, none⟩) 2 2 ∧ T 9 = .slice (some ⟨σ.length + 4, 0, none⟩) 2 2 ∧ T 33 = .slice (some ⟨σ.length + 3, 0, none⟩) 2 2 ∧ T 34 = .int .i64 2 ∧ T 35 = .int .i64 i) 2
      ⟨0, a.sym, c.sym, a.minus, c.minus, rfl, .inl ⟨rfl, rfl, rfl, rfl, rfl⟩, by rw [hc1]; rfl, rfl, rfl, rfl, rfl, rfl, rfl, rfl, rfl⟩ ?_
    rintro k T ρ ⟨i, p0, p1, m0, m1, hk, hst, rfl, t3, t4, t6, t8, t9, t33, t34, t35⟩
    have hlen := stage_len hst ⟨a1, a2⟩ hcl
    rcases hst with ⟨rfl, rfl, rfl, rfl, rfl⟩ | ⟨rfl, h1, rfl⟩ | ⟨rfl, n0, n1, h1, h2⟩
    · simp only [go_sem, ↓reduceIte, Nat.reduceEqDiff, Nat.reduceAdd, Nat.reduceMul, Nat.reduceLT, Nat.reduceLeDiff, Int.reduceLT, Int.reduceLE, Int.reduceNeg, Int.reduceAdd, Int.reduceSub, Int.reduceMul, Int.reduceToNat, Int.reduceEq, Int.reduceNe, Int.cast_ofNat_Int, Int.natCast_one, Int.natCast_zero, Int.natCast_add, reduceCtorEq, addHeap, t3, t4, t6, t8, t9, t33, t34, t35]
      refine (f102_ok X [a.minus, c.minus] a.sym _ 0 2 true 1 _ (by rw [look_app_add]; rfl) (by simp)).mono ?_
      rintro _ _ ⟨rfl, rfl⟩
      rw [idx_two]
      by_cases e1 : a.sym = []
      · have hcc : cancel a.sym a.minus c.minus = (a.sym, a.minus, c.minus) := by rw [cancel, if_pos e1]
        simp only [go_sem, ↓reduceIte, Nat.reduceEqDiff, Nat.reduceAdd, Nat.reduceMul, Nat.reduceLT, Nat.reduceLeDiff, Int.reduceLT, Int.reduceLE, Int.reduceNeg, Int.reduceAdd, Int.reduceSub, Int.reduceMul, Int.reduceToNat, Int.reduceEq, Int.reduceNe, Int.cast_ofNat_Int, Int.natCast_one, Int.natCast_zero, Int.natCast_add, reduceCtorEq, t3, t4, t6, t8, t9, t33, t34, t35, eq_true e1, show IntKind.i64.wrap 1 = 1 by decide, show IntKind.i64.wrap 2 = 2 by decide]
        refine ⟨k - 1, by omega, 1, a.sym, c.sym, a.minus, c.minus, by omega, .inr (.inl ⟨rfl, hcc.symm, rfl⟩), ?_⟩
        (repeat' (first | exact rfl | apply And.intro))
      · by_cases e2 : a.minus = a.sym
        · have hcc : cancel a.sym a.minus c.minus = ([], [], c.minus) := by rw [cancel, if_neg e1, if_pos e2]
          simp only [go_sem, ↓reduceIte, Nat.reduceEqDiff, Nat.reduceAdd, Nat.reduceMul, Nat.reduceLT, Nat.reduceLeDiff, Int.reduceLT, Int.reduceLE, Int.reduceNeg, Int.reduceAdd, Int.reduceSub, Int.reduceMul, Int.reduceToNat, Int.reduceEq, Int.reduceNe, Int.cast_ofNat_Int, Int.natCast_one, Int.natCast_zero, Int.natCast_add, reduceCtorEq, t3, t4, t6, t8, t9, t33, t34, t35, eq_false e1, eq_true e2, show IntKind.i64.wrap 1 = 1 by decide, show IntKind.i64.wrap 2 = 2 by decide]
          refine ⟨k - 1, by omega, 1, [], c.sym, [], c.minus, by omega, .inr (.inl ⟨rfl, hcc.symm, rfl⟩), ?_⟩
          (repeat' (first | exact rfl | apply And.intro))
        · by_cases e3 : c.minus = a.sym
          · have hcc : cancel a.sym a.minus c.minus = ([], a.minus, []) := by rw [cancel, if_neg e1, if_neg e2, if_pos e3]
            simp only [go_sem, ↓reduceIte, Nat.reduceEqDiff, Nat.reduceAdd, Nat.reduceMul, Nat.reduceLT, Nat.reduceLeDiff, Int.reduceLT, Int.reduceLE, Int.reduceNeg, Int.reduceAdd, Int.reduceSub, Int.reduceMul, Int.reduceToNat, Int.reduceEq, Int.reduceNe, Int.cast_ofNat_Int, Int.natCast_one, Int.natCast_zero, Int.natCast_add, reduceCtorEq, t3, t4, t6, t8, t9, t33, t34, t35, eq_false e1, eq_false e2, eq_true e3, show IntKind.i64.wrap 1 = 1 by decide, show IntKind.i64.wrap 2 = 2 by decide]
            refine ⟨k - 1, by omega, 1, [], c.sym, a.minus, [], by omega, .inr (.inl ⟨rfl, hcc.symm, rfl⟩), ?_⟩
            (repeat' (first | exact rfl | apply And.intro))
          · have hcc : cancel a.sym a.minus c.minus = (a.sym, a.minus, c.minus) := by rw [cancel, if_neg e1, if_neg e2, if_neg e3]
            simp only [go_sem, ↓reduceIte, Nat.reduceEqDiff, Nat.reduceAdd, Nat.reduceMul, Nat.reduceLT, Nat.reduceLeDiff, Int.reduceLT, Int.reduceLE, Int.reduceNeg, Int.reduceAdd, Int.reduceSub, Int.reduceMul, Int.reduceToNat, Int.reduceEq, Int.reduceNe, Int.cast_ofNat_Int, Int.natCast_one, Int.natCast_zero, Int.natCast_add, reduceCtorEq, t3, t4, t6, t8, t9, t33, t34, t35, eq_false e1, eq_false e2, eq_false e3, show IntKind.i64.wrap 1 = 1 by decide, show IntKind.i64.wrap 2 = 2 by decide]
            refine ⟨k - 1, by omega, 1, a.sym, c.sym, a.minus, c.minus, by omega, .inr (.inl ⟨rfl, hcc.symm, rfl⟩), ?_⟩
            (repeat' (first | exact rfl | apply And.intro))
    · simp only [go_sem, ↓reduceIte, Nat.reduceEqDiff, Nat.reduceAdd, Nat.reduceMul, Nat.reduceLT, Nat.reduceLeDiff, Int.reduceLT, Int.reduceLE, Int.reduceNeg, Int.reduceAdd, Int.reduceSub, Int.reduceMul, Int.reduceToNat, Int.reduceEq, Int.reduceNe, Int.cast_ofNat_Int, Int.natCast_one, Int.natCast_zero, Int.natCast_add, reduceCtorEq, addHeap, t3, t4, t6, t8, t9, t33, t34, t35]
      refine (f102_ok X [m0, m1] c.sym _ 0 2 true 1 _ (by rw [look_app_add]; rfl) (by simp)).mono ?_
      rintro _ _ ⟨rfl, rfl⟩
      rw [idx_two]
      by_cases e1 : c.sym = []
      · have hcc : cancel c.sym m0 m1 = (c.sym, m0, m1) := by rw [cancel, if_pos e1]
        simp only [go_sem, ↓reduceIte, Nat.reduceEqDiff, Nat.reduceAdd, Nat.reduceMul, Nat.reduceLT, Nat.reduceLeDiff, Int.reduceLT, Int.reduceLE, Int.reduceNeg, Int.reduceAdd, Int.reduceSub, Int.reduceMul, Int.reduceToNat, Int.reduceEq, Int.reduceNe, Int.cast_ofNat_Int, Int.natCast_one, Int.natCast_zero, Int.natCast_add, reduceCtorEq, t3, t4, t6, t8, t9, t33, t34, t35, eq_true e1, show IntKind.i64.wrap 1 = 1 by decide, show IntKind.i64.wrap 2 = 2 by decide]
        refine ⟨k - 1, by omega, 2, p0, c.sym, m0, m1, by omega, .inr (.inr ⟨rfl, _, _, h1, hcc.symm⟩), ?_⟩
        (repeat' (first | exact rfl | apply And.intro))
      · by_cases e2 : m0 = c.sym
        · have hcc : cancel c.sym m0 m1 = ([], [], m1) := by rw [cancel, if_neg e1, if_pos e2]
          simp only [go_sem, ↓reduceIte, Nat.reduceEqDiff, Nat.reduceAdd, Nat.reduceMul, Nat.reduceLT, Nat.reduceLeDiff, Int.reduceLT, Int.reduceLE, Int.reduceNeg, Int.reduceAdd, Int.reduceSub, Int.reduceMul, Int.reduceToNat, Int.reduceEq, Int.reduceNe, Int.cast_ofNat_Int, Int.natCast_one, Int.natCast_zero, Int.natCast_add, reduceCtorEq, t3, t4, t6, t8, t9, t33, t34, t35, eq_false e1, eq_true e2, show IntKind.i64.wrap 1 = 1 by decide, show IntKind.i64.wrap 2 = 2 by decide]
          refine ⟨k - 1, by omega, 2, p0, [], [], m1, by omega, .inr (.inr ⟨rfl, _, _, h1, hcc.symm⟩), ?_⟩
          (repeat' (first | exact rfl | apply And.intro))
        · by_cases e3 : m1 = c.sym
          · have hcc : cancel c.sym m0 m1 = ([], m0, []) := by rw [cancel, if_neg e1, if_neg e2, if_pos e3]
            simp only [go_sem, ↓reduceIte, Nat.reduceEqDiff, Nat.reduceAdd, Nat.reduceMul, Nat.reduceLT, Nat.reduceLeDiff, Int.reduceLT, Int.reduceLE, Int.reduceNeg, Int.reduceAdd, Int.reduceSub, Int.reduceMul, Int.reduceToNat, Int.reduceEq, Int.reduceNe, Int.cast_ofNat_Int, Int.natCast_one, Int.natCast_zero, Int.natCast_add, reduceCtorEq, t3, t4, t6, t8, t9, t33, t34, t35, eq_false e1, eq_false e2, eq_true e3, show IntKind.i64.wrap 1 = 1 by decide, show IntKind.i64.wrap 2 = 2 by decide]
            refine ⟨k - 1, by omega, 2, p0, [], m0, [], by omega, .inr (.inr ⟨rfl, _, _, h1, hcc.symm⟩), ?_⟩
            (repeat' (first | exact rfl | apply And.intro))
          · have hcc : cancel c.sym m0 m1 = (c.sym, m0, m1) := by rw [cancel, if_neg e1, if_neg e2, if_neg e3]
            simp only [go_sem, ↓reduceIte, Nat.reduceEqDiff, Nat.reduceAdd, Nat.reduceMul, Nat.reduceLT, Nat.reduceLeDiff, Int.reduceLT, Int.reduceLE, Int.reduceNeg, Int.reduceAdd, Int.reduceSub, Int.reduceMul, Int.reduceToNat, Int.reduceEq, Int.reduceNe, Int.cast_ofNat_Int, Int.natCast_one, Int.natCast_zero, Int.natCast_add, reduceCtorEq, t3, t4, t6, t8, t9, t33, t34, t35, eq_false e1, eq_false e2, eq_false e3, show IntKind.i64.wrap 1 = 1 by decide, show IntKind.i64.wrap 2 = 2 by decide]
            refine ⟨k - 1, by omega, 2, p0, c.sym, m0, m1, by omega, .inr (.inr ⟨rfl, _, _, h1, hcc.symm⟩), ?_⟩
            (repeat' (first | exact rfl | apply And.intro))
    · have hsum : sumL a c = if (p0 ≠ [] ∧ p1 ≠ []) ∨ (m0 ≠ [] ∧ m1 ≠ []) then none else some ⟨p0 ++ p1, m0 ++ m1, a.num + c.num⟩ := by
        unfold sumL
        rw [← h1]
        simp only
        rw [← h2]
      rw [hsum]
      have hwn : IntKind.i64.wrap (a.num + c.num) = a.num + c.num := wrap64 (by omega)
      have hs1 := sadd (P := Tryd.prog) (t := 9) (show p0.length + p1.length ≤ 9223372036854775807 by omega)
      have hs2 := sadd (P := Tryd.prog) (t := 9) (show m0.length + m1.length ≤ 9223372036854775807 by omega)
      by_cases g1 : p0 = []
      · by_cases g3 : m0 = []
        · rw [if_neg (by simp [g1, g3])]
          simp only [go_sem, ↓reduceIte, Nat.reduceEqDiff, Nat.reduceAdd, Nat.reduceMul, Nat.reduceLT, Nat.reduceLeDiff, Int.reduceLT, Int.reduceLE, Int.reduceNeg, Int.reduceAdd, Int.reduceSub, Int.reduceMul, Int.reduceToNat, Int.reduceEq, Int.reduceNe, Int.cast_ofNat_Int, Int.natCast_one, Int.natCast_zero, Int.natCast_add, reduceCtorEq, addHeap, t3, t4, t6, t8, t9, t33, t34, t35, eq_true g1, eq_true g3, Lin.cells, Lin.zero, hs1, hs2, hwn]
          (repeat (refine And.intro ?_ ?_; focus (first | (refine quiet_pre ?_; simp [List.cons_prefix_cons]; done) | (refine quiet_look ?_; kernel_rfl))))
          exact ⟨rfl, List.prefix_append _ _⟩
        · by_cases g4 : m1 = []
          · rw [if_neg (by simp [g1, g4])]
            simp only [go_sem, ↓reduceIte, Nat.reduceEqDiff, Nat.reduceAdd, Nat.reduceMul, Nat.reduceLT, Nat.reduceLeDiff, Int.reduceLT, Int.reduceLE, Int.reduceNeg, Int.reduceAdd, Int.reduceSub, Int.reduceMul, Int.reduceToNat, Int.reduceEq, Int.reduceNe, Int.cast_ofNat_Int, Int.natCast_one, Int.natCast_zero, Int.natCast_add, reduceCtorEq, addHeap, t3, t4, t6, t8, t9, t33, t34, t35, eq_true g1, eq_false g3, eq_true g4, Lin.cells, Lin.zero, hs1, hs2, hwn]
            (repeat (refine And.intro ?_ ?_; focus (first | (refine quiet_pre ?_; simp [List.cons_prefix_cons]; done) | (refine quiet_look ?_; kernel_rfl))))
            exact ⟨rfl, List.prefix_append _ _⟩
          · rw [if_pos (.inr ⟨g3, g4⟩)]
            simp only [go_sem, ↓reduceIte, Nat.reduceEqDiff, Nat.reduceAdd, Nat.reduceMul, Nat.reduceLT, Nat.reduceLeDiff, Int.reduceLT, Int.reduceLE, Int.reduceNeg, Int.reduceAdd, Int.reduceSub, Int.reduceMul, Int.reduceToNat, Int.reduceEq, Int.reduceNe, Int.cast_ofNat_Int, Int.natCast_one, Int.natCast_zero, Int.natCast_add, reduceCtorEq, addHeap, t3, t4, t6, t8, t9, t33, t34, t35, eq_true g1, eq_false g3, eq_false g4, Lin.cells, Lin.zero]
            (repeat (refine And.intro ?_ ?_; focus (first | (refine quiet_pre ?_; simp [List.cons_prefix_cons]; done) | (refine quiet_look ?_; kernel_rfl))))
            exact ⟨rfl, List.prefix_append _ _⟩
      · by_cases g2 : p1 = []
        · by_cases g3 : m0 = []
          · rw [if_neg (by simp [g2, g3])]
            simp only [go_sem, ↓reduceIte, Nat.reduceEqDiff, Nat.reduceAdd, Nat.reduceMul, Nat.reduceLT, Nat.reduceLeDiff, Int.reduceLT, Int.reduceLE, Int.reduceNeg, Int.reduceAdd, Int.reduceSub, Int.reduceMul, Int.reduceToNat, Int.reduceEq, Int.reduceNe, Int.cast_ofNat_Int, Int.natCast_one, Int.natCast_zero, Int.natCast_add, reduceCtorEq, addHeap, t3, t4, t6, t8, t9, t33, t34, t35, eq_false g1, eq_true g2, eq_true g3, Lin.cells, Lin.zero, hs1, hs2, hwn]
            (repeat (refine And.intro ?_ ?_; focus (first | (refine quiet_pre ?_; simp [List.cons_prefix_cons]; done) | (refine quiet_look ?_; kernel_rfl))))
            exact ⟨rfl, List.prefix_append _ _⟩
          · by_cases g4 : m1 = []
            · rw [if_neg (by simp [g2, g4])]
              simp only [go_sem, ↓reduceIte, Nat.reduceEqDiff, Nat.reduceAdd, Nat.reduceMul, Nat.reduceLT, Nat.reduceLeDiff, Int.reduceLT, Int.reduceLE, Int.reduceNeg, Int.reduceAdd, Int.reduceSub, Int.reduceMul, Int.reduceToNat, Int.reduceEq, Int.reduceNe, Int.cast_ofNat_Int, Int.natCast_one, Int.natCast_zero, Int.natCast_add, reduceCtorEq, addHeap, t3, t4, t6, t8, t9, t33, t34, t35, eq_false g1, eq_true g2, eq_false g3, eq_true g4, Lin.cells, Lin.zero, hs1, hs2, hwn]
              (repeat (refine And.intro ?_ ?_; focus (first | (refine quiet_pre ?_; simp [List.cons_prefix_cons]; done) | (refine quiet_look ?_; kernel_rfl))))
              exact ⟨rfl, List.prefix_append _ _⟩
            · rw [if_pos (.inr ⟨g3, g4⟩)]
              simp only [go_sem, ↓reduceIte, Nat.reduceEqDiff, Nat.reduceAdd, Nat.reduceMul, Nat.reduceLT, Nat.reduceLeDiff, Int.reduceLT, Int.reduceLE, Int.reduceNeg, Int.reduceAdd, Int.reduceSub, Int.reduceMul, Int.reduceToNat, Int.reduceEq, Int.reduceNe, Int.cast_ofNat_Int, Int.natCast_one, Int.natCast_zero, Int.natCast_add, reduceCtorEq, addHeap, t3, t4, t6, t8, t9, t33, t34, t35, eq_false g1, eq_true g2, eq_false g3, eq_false g4, Lin.cells, Lin.zero]
              (repeat (refine And.intro ?_ ?_; focus (first | (refine quiet_pre ?_; simp [List.cons_prefix_cons]; done) | (refine quiet_look ?_; kernel_rfl))))
              exact ⟨rfl, List.prefix_append _ _⟩
        · rw [if_pos (.inl ⟨g1, g2⟩)]
          simp only [go_sem, ↓reduceIte, Nat.reduceEqDiff, Nat.reduceAdd, Nat.reduceMul, Nat.reduceLT, Nat.reduceLeDiff, Int.reduceLT, Int.reduceLE, Int.reduceNeg, Int.reduceAdd, Int.reduceSub, Int.reduceMul, Int.reduceToNat, Int.reduceEq, Int.reduceNe, Int.cast_ofNat_Int, Int.natCast_one, Int.natCast_zero, Int.natCast_add, reduceCtorEq, addHeap, t3, t4, t6, t8, t9, t33, t34, t35, eq_false g1, eq_false g2, Lin.cells, Lin.zero]
          (repeat (refine And.intro ?_ ?_; focus (first | (refine quiet_pre ?_; simp [List.cons_prefix_cons]; done) | (refine quiet_look ?_; kernel_rfl))))
          exact ⟨rfl, List.prefix_append _ _⟩

/-! ### operations on numbers -/
def calcOf (kind a b : Int) : Int × Int :=
  if kind = 7 then (if a ≠ 0 ∧ IntKind.i64.wrap ((IntKind.i64.wrap (a * b)).tdiv a) ≠ b then (0, 10) else (IntKind.i64.wrap (a * b), 0))
  else if kind = 8 ∨ kind = 9 then (if b = 0 then (0, 3) else if kind = 8 then (IntKind.i64.wrap (a.tdiv b), 0) else (a.tmod b, 0))
  else if kind = 10 ∨ kind = 11 then (if b < 0 ∨ 40 < b then (0, 3) else if kind = 11 then (a.fdiv (2 ^ (min b.toNat 64)), 0)
    else if (1099511627776 : Int).fdiv (2 ^ (min b.toNat 64)) < a ∨ a < IntKind.i64.wrap (0 - (1099511627776 : Int).fdiv (2 ^ (min b.toNat 64))) then (0, 10) else (IntKind.i64.wrap (a * 2 ^ (min b.toNat 64)), 0))
  else if kind = 12 then (Go.bits .and .i64 a b, 0) else if kind = 13 then (Go.bits .xor .i64 a b, 0) else (Go.bits .or .i64 a b, 0)
set_option maxHeartbeats 2000000 in
theorem f83_ok (X : Ext) (kind a b : Int) (σ : Heap) : CW Tryd.prog X 83 [.int .i64 kind, .int .i64 a, .int .i64 b] σ fun v σ' => v = .tuple #[.int .i64 (calcOf kind a b).1, .int .i64 (calcOf kind a b).2] ∧ σ' = σ := by
  refine cw_in Tryd.func83 rfl Tryd.ntmps83 (rs := [.tmp 6, .tmp 7]) rfl (by kernel_rfl) (by exact Nat.le_of_ble_eq_true rfl) ?_
  by_cases k7 : kind = 7
  · have e : calcOf kind a b = if a ≠ 0 ∧ IntKind.i64.wrap ((IntKind.i64.wrap (a * b)).tdiv a) ≠ b then (0, 10) else (IntKind.i64.wrap (a * b), 0) := by rw [calcOf, if_pos k7]
    rw [e]
    by_cases a0 : a = 0
    · rw [if_neg (fun h => h.1 a0)]
      simp only [go_sem, ↓reduceIte, Nat.reduceEqDiff, Nat.reduceAdd, Nat.reduceMul, Nat.reduceLT, Nat.reduceLeDiff, Int.reduceLT, Int.reduceLE, Int.reduceNeg, Int.reduceAdd, Int.reduceSub, Int.reduceMul, Int.reduceToNat, Int.reduceEq, Int.reduceNe, Int.cast_ofNat_Int, Int.natCast_one, Int.natCast_zero, Int.natCast_add, reduceCtorEq, k7, eq_true a0]
    · by_cases hq : IntKind.i64.wrap ((IntKind.i64.wrap (a * b)).tdiv a) = b
      · rw [if_neg (fun h => h.2 hq)]
        simp only [go_sem, ↓reduceIte, Nat.reduceEqDiff, Nat.reduceAdd, Nat.reduceMul, Nat.reduceLT, Nat.reduceLeDiff, Int.reduceLT, Int.reduceLE, Int.reduceNeg, Int.reduceAdd, Int.reduceSub, Int.reduceMul, Int.reduceToNat, Int.reduceEq, Int.reduceNe, Int.cast_ofNat_Int, Int.natCast_one, Int.natCast_zero, Int.natCast_add, reduceCtorEq, k7, eq_false a0, i_quo a0, eq_true hq]
      · rw [if_pos ⟨a0, hq⟩]
        simp only [go_sem, ↓reduceIte, Nat.reduceEqDiff, Nat.reduceAdd, Nat.reduceMul, Nat.reduceLT, Nat.reduceLeDiff, Int.reduceLT, Int.reduceLE, Int.reduceNeg, Int.reduceAdd, Int.reduceSub, Int.reduceMul, Int.reduceToNat, Int.reduceEq, Int.reduceNe, Int.cast_ofNat_Int, Int.natCast_one, Int.natCast_zero, Int.natCast_add, reduceCtorEq, k7, eq_false a0, i_quo a0, eq_false hq]
  by_cases k8 : kind = 8 ∨ kind = 9
  · have e : calcOf kind a b = if b = 0 then (0, 3) else if kind = 8 then (IntKind.i64.wrap (a.tdiv b), 0) else (a.tmod b, 0) := by rw [calcOf, if_neg k7, if_pos k8]
    rw [e]
    by_cases k81 : kind = 8
    · by_cases b0 : b = 0
      · simp only [go_sem, ↓reduceIte, Nat.reduceEqDiff, Nat.reduceAdd, Nat.reduceMul, Nat.reduceLT, Nat.reduceLeDiff, Int.reduceLT, Int.reduceLE, Int.reduceNeg, Int.reduceAdd, Int.reduceSub, Int.reduceMul, Int.reduceToNat, Int.reduceEq, Int.reduceNe, Int.cast_ofNat_Int, Int.natCast_one, Int.natCast_zero, Int.natCast_add, reduceCtorEq, k81, b0]
      · simp only [go_sem, ↓reduceIte, Nat.reduceEqDiff, Nat.reduceAdd, Nat.reduceMul, Nat.reduceLT, Nat.reduceLeDiff, Int.reduceLT, Int.reduceLE, Int.reduceNeg, Int.reduceAdd, Int.reduceSub, Int.reduceMul, Int.reduceToNat, Int.reduceEq, Int.reduceNe, Int.cast_ofNat_Int, Int.natCast_one, Int.natCast_zero, Int.natCast_add, reduceCtorEq, k81, eq_false b0, i_quo b0]
    · have k9 : kind = 9 := by omega
      by_cases b0 : b = 0
      · simp only [go_sem, ↓reduceIte, Nat.reduceEqDiff, Nat.reduceAdd, Nat.reduceMul, Nat.reduceLT, Nat.reduceLeDiff, Int.reduceLT, Int.reduceLE, Int.reduceNeg, Int.reduceAdd, Int.reduceSub, Int.reduceMul, Int.reduceToNat, Int.reduceEq, Int.reduceNe, Int.cast_ofNat_Int, Int.natCast_one, Int.natCast_zero, Int.natCast_add, reduceCtorEq, k9, b0]
      · simp only [go_sem, ↓reduceIte, Nat.reduceEqDiff, Nat.reduceAdd, Nat.reduceMul, Nat.reduceLT, Nat.reduceLeDiff, Int.reduceLT, Int.reduceLE, Int.reduceNeg, Int.reduceAdd, Int.reduceSub, Int.reduceMul, Int.reduceToNat, Int.reduceEq, Int.reduceNe, Int.cast_ofNat_Int, Int.natCast_one, Int.natCast_zero, Int.natCast_add, reduceCtorEq, k9, eq_false b0, i_rem b0]
  have k8a : ¬ kind = 8 := fun h => k8 (.inl h)
  have k9a : ¬ kind = 9 := fun h => k8 (.inr h)
  by_cases k10 : kind = 10 ∨ kind = 11
  · have e : calcOf kind a b = if b < 0 ∨ 40 < b then (0, 3) else if kind = 11 then (a.fdiv (2 ^ (min b.toNat 64)), 0)
      else if (1099511627776 : Int).fdiv (2 ^ (min b.toNat 64)) < a ∨ a < IntKind.i64.wrap (0 - (1099511627776 : Int).fdiv (2 ^ (min b.toNat 64))) then (0, 10) else (IntKind.i64.wrap (a * 2 ^ (min b.toNat 64)), 0) := by
      rw [calcOf, if_neg k7, if_neg k8, if_pos k10]
    rw [e]
    have core : (kind = 10 ∨ kind = 11) := k10
    by_cases k11 : kind = 11
    · subst k11
      by_cases b0 : b < 0
      · simp only [go_sem, ↓reduceIte, Nat.reduceEqDiff, Nat.reduceAdd, Nat.reduceMul, Nat.reduceLT, Nat.reduceLeDiff, Int.reduceLT, Int.reduceLE, Int.reduceNeg, Int.reduceAdd, Int.reduceSub, Int.reduceMul, Int.reduceToNat, Int.reduceEq, Int.reduceNe, Int.cast_ofNat_Int, Int.natCast_one, Int.natCast_zero, Int.natCast_add, reduceCtorEq, b0, true_or]
      · by_cases b40 : 40 < b
        · simp only [go_sem, ↓reduceIte, Nat.reduceEqDiff, Nat.reduceAdd, Nat.reduceMul, Nat.reduceLT, Nat.reduceLeDiff, Int.reduceLT, Int.reduceLE, Int.reduceNeg, Int.reduceAdd, Int.reduceSub, Int.reduceMul, Int.reduceToNat, Int.reduceEq, Int.reduceNe, Int.cast_ofNat_Int, Int.natCast_one, Int.natCast_zero, Int.natCast_add, reduceCtorEq, b0, b40, or_true]
        · simp only [go_sem, ↓reduceIte, Nat.reduceEqDiff, Nat.reduceAdd, Nat.reduceMul, Nat.reduceLT, Nat.reduceLeDiff, Int.reduceLT, Int.reduceLE, Int.reduceNeg, Int.reduceAdd, Int.reduceSub, Int.reduceMul, Int.reduceToNat, Int.reduceEq, Int.reduceNe, Int.cast_ofNat_Int, Int.natCast_one, Int.natCast_zero, Int.natCast_add, reduceCtorEq, b0, b40, or_self, i_shr (show 0 ≤ b by omega)]
    · have k10a : kind = 10 := by omega
      subst k10a
      by_cases b0 : b < 0
      · simp only [go_sem, ↓reduceIte, Nat.reduceEqDiff, Nat.reduceAdd, Nat.reduceMul, Nat.reduceLT, Nat.reduceLeDiff, Int.reduceLT, Int.reduceLE, Int.reduceNeg, Int.reduceAdd, Int.reduceSub, Int.reduceMul, Int.reduceToNat, Int.reduceEq, Int.reduceNe, Int.cast_ofNat_Int, Int.natCast_one, Int.natCast_zero, Int.natCast_add, reduceCtorEq, b0, true_or]
      · by_cases b40 : 40 < b
        · simp only [go_sem, ↓reduceIte, Nat.reduceEqDiff, Nat.reduceAdd, Nat.reduceMul, Nat.reduceLT, Nat.reduceLeDiff, Int.reduceLT, Int.reduceLE, Int.reduceNeg, Int.reduceAdd, Int.reduceSub, Int.reduceMul, Int.reduceToNat, Int.reduceEq, Int.reduceNe, Int.cast_ofNat_Int, Int.natCast_one, Int.natCast_zero, Int.natCast_add, reduceCtorEq, b0, b40, or_true]
        · rw [if_neg (by omega), if_neg (by omega)]
          generalize hm : (1099511627776 : Int).fdiv (2 ^ (min b.toNat 64)) = m
          by_cases c1 : m < a
          · rw [if_pos (.inl c1)]
            simp only [go_sem, ↓reduceIte, Nat.reduceEqDiff, Nat.reduceAdd, Nat.reduceMul, Nat.reduceLT, Nat.reduceLeDiff, Int.reduceLT, Int.reduceLE, Int.reduceNeg, Int.reduceAdd, Int.reduceSub, Int.reduceMul, Int.reduceToNat, Int.reduceEq, Int.reduceNe, Int.cast_ofNat_Int, Int.natCast_one, Int.natCast_zero, Int.natCast_add, reduceCtorEq, b0, b40, i_shr (show 0 ≤ b by omega), hm, eq_true c1]
          · by_cases c2 : a < IntKind.i64.wrap (0 - m)
            · rw [if_pos (.inr c2)]
              simp only [go_sem, ↓reduceIte, Nat.reduceEqDiff, Nat.reduceAdd, Nat.reduceMul, Nat.reduceLT, Nat.reduceLeDiff, Int.reduceLT, Int.reduceLE, Int.reduceNeg, Int.reduceAdd, Int.reduceSub, Int.reduceMul, Int.reduceToNat, Int.reduceEq, Int.reduceNe, Int.cast_ofNat_Int, Int.natCast_one, Int.natCast_zero, Int.natCast_add, reduceCtorEq, b0, b40, i_shr (show 0 ≤ b by omega), hm, eq_false c1, eq_true c2]
            · rw [if_neg (fun h => h.elim c1 c2)]
              simp only [go_sem, ↓reduceIte, Nat.reduceEqDiff, Nat.reduceAdd, Nat.reduceMul, Nat.reduceLT, Nat.reduceLeDiff, Int.reduceLT, Int.reduceLE, Int.reduceNeg, Int.reduceAdd, Int.reduceSub, Int.reduceMul, Int.reduceToNat, Int.reduceEq, Int.reduceNe, Int.cast_ofNat_Int, Int.natCast_one, Int.natCast_zero, Int.natCast_add, reduceCtorEq, b0, b40, i_shr (show 0 ≤ b by omega), i_shl (show 0 ≤ b by omega), hm, eq_false c1, eq_false c2]
  have k10a : ¬ kind = 10 := fun h => k10 (.inl h)
  have k11a : ¬ kind = 11 := fun h => k10 (.inr h)
  have e : calcOf kind a b = if kind = 12 then (Go.bits .and .i64 a b, 0) else if kind = 13 then (Go.bits .xor .i64 a b, 0) else (Go.bits .or .i64 a b, 0) := by
    rw [calcOf, if_neg k7, if_neg k8, if_neg k10]
  rw [e]
  by_cases k12 : kind = 12
  · simp only [go_sem, ↓reduceIte, Nat.reduceEqDiff, Nat.reduceAdd, Nat.reduceMul, Nat.reduceLT, Nat.reduceLeDiff, Int.reduceLT, Int.reduceLE, Int.reduceNeg, Int.reduceAdd, Int.reduceSub, Int.reduceMul, Int.reduceToNat, Int.reduceEq, Int.reduceNe, Int.cast_ofNat_Int, Int.natCast_one, Int.natCast_zero, Int.natCast_add, reduceCtorEq, k12]
  · by_cases k13 : kind = 13
    · simp only [go_sem, ↓reduceIte, Nat.reduceEqDiff, Nat.reduceAdd, Nat.reduceMul, Nat.reduceLT, Nat.reduceLeDiff, Int.reduceLT, Int.reduceLE, Int.reduceNeg, Int.reduceAdd, Int.reduceSub, Int.reduceMul, Int.reduceToNat, Int.reduceEq, Int.reduceNe, Int.cast_ofNat_Int, Int.natCast_one, Int.natCast_zero, Int.natCast_add, reduceCtorEq, k13]
    · simp only [go_sem, ↓reduceIte, Nat.reduceEqDiff, Nat.reduceAdd, Nat.reduceMul, Nat.reduceLT, Nat.reduceLeDiff, Int.reduceLT, Int.reduceLE, Int.reduceNeg, Int.reduceAdd, Int.reduceSub, Int.reduceMul, Int.reduceToNat, Int.reduceEq, Int.reduceNe, Int.cast_ofNat_Int, Int.natCast_one, Int.natCast_zero, Int.natCast_add, reduceCtorEq, k7, k8a, k9a, k10a, k11a, k12, k13]
end Go.Proofs.YtkgdkommahgakaaDoor.Abs

namespace Go.Proofs.YtkgdkommahgakaaDoor.Abs
open Go Go.RowKit Gram
set_option linter.unusedVariables false
set_option linter.unusedSimpArgs false
set_option maxRecDepth 100000

attribute [go_sem] List.drop_succ_cons
/-! ### symbols -/
structure Sy where
  name : List UInt8
  lin : Lin
def Sy.cells (x : Sy) : List Value := [.string (str x.name), .string (str x.lin.sym), .string (str x.lin.minus), .int .i64 x.lin.num]
theorem Sy.len (L : List Sy) : (L.flatMap Sy.cells).length = L.length * 4 := by
  induction L with
  | nil => rfl
  | cons x L ih => simp only [List.flatMap_cons, List.length_append, ih, List.length_cons, Sy.cells, List.length_nil]; omega
theorem Sy.take {x : Sy} {L : List Sy} {i : Nat} (h : L[i]? = some x) : ((L.flatMap Sy.cells).drop (i * 4)).take 4 = x.cells := chunk_at Sy.cells 4 (fun _ => rfl) x L i h
theorem f78_ok (X : Ext) (s : List UInt8) (hs : s.length ≤ 140737488351232) (σ : Heap) : CW Tryd.prog X 78 [.string (str s)] σ fun v σ' => v = .bool (decide (s = []) || nameOk s) ∧ σ' = σ := by
  refine cw_in Tryd.func78 rfl Tryd.ntmps78 (rs := [.tmp 2]) rfl (by kernel_rfl) (by exact Nat.le_of_ble_eq_true rfl) ?_
  by_cases h : s = []
  · simp only [go_sem, ↓reduceIte, Nat.reduceEqDiff, Nat.reduceAdd, Nat.reduceMul, Nat.reduceLT, Nat.reduceLeDiff, Int.reduceLT, Int.reduceLE, Int.reduceNeg, Int.reduceAdd, Int.reduceSub, Int.reduceMul, Int.reduceToNat, Int.reduceEq, Int.reduceNe, Int.cast_ofNat_Int, Int.natCast_one, Int.natCast_zero, Int.natCast_add, reduceCtorEq, eq_true h]
  · simp only [go_sem, ↓reduceIte, Nat.reduceEqDiff, Nat.reduceAdd, Nat.reduceMul, Nat.reduceLT, Nat.reduceLeDiff, Int.reduceLT, Int.reduceLE, Int.reduceNeg, Int.reduceAdd, Int.reduceSub, Int.reduceMul, Int.reduceToNat, Int.reduceEq, Int.reduceNe, Int.cast_ofNat_Int, Int.natCast_one, Int.natCast_zero, Int.natCast_add, reduceCtorEq, eq_false h]
    refine (f55_ok X s hs _).mono ?_
    rintro _ _ ⟨rfl, rfl⟩
    simp only [go_sem, ↓reduceIte, Nat.reduceEqDiff, Nat.reduceAdd, Nat.reduceMul, Nat.reduceLT, Nat.reduceLeDiff, Int.reduceLT, Int.reduceLE, Int.reduceNeg, Int.reduceAdd, Int.reduceSub, Int.reduceMul, Int.reduceToNat, Int.reduceEq, Int.reduceNe, Int.cast_ofNat_Int, Int.natCast_one, Int.natCast_zero, Int.natCast_add, reduceCtorEq, eq_false h]
theorem f80_ok (X : Ext) (x : Sy) (nd : Nd) (q : Nat) (ow : Bool) (sz : Nat) (σ : Heap) (hq : look σ q = some ⟨nd.cells, ow, sz⟩) : CW Tryd.prog X 80 [.agg x.cells.toArray, .pointer (some ⟨q, 0, none⟩)] σ fun v σ' => v = .bool (decide (x.name = nd.name)) ∧ σ <+: σ' := by
  refine cw_in Tryd.func80 rfl Tryd.ntmps80 (rs := [.tmp 3]) rfl (by kernel_rfl) (by exact Nat.le_of_ble_eq_true rfl) ?_
  have hql := look_lt hq
  simp only [go_sem, ↓reduceIte, Nat.reduceEqDiff, Nat.reduceAdd, Nat.reduceMul, Nat.reduceLT, Nat.reduceLeDiff, Int.reduceLT, Int.reduceLE, Int.reduceNeg, Int.reduceAdd, Int.reduceSub, Int.reduceMul, Int.reduceToNat, Int.reduceEq, Int.reduceNe, Int.cast_ofNat_Int, Int.natCast_one, Int.natCast_zero, Int.natCast_add, reduceCtorEq, Sy.cells, look_app_lt hql, hq, Nd.cells]
  exact List.prefix_append _ _
set_option maxHeartbeats 1000000 in
theorem f79_ok (X : Ext) (S : List Sy) (nd : Nd) (n c q : Nat) (ow oq : Bool) (sz sq : Nat) (σ : Heap) (hl : look σ n = some ⟨S.flatMap Sy.cells, ow, sz⟩) (hq : look σ q = some ⟨nd.cells, oq, sq⟩) (hS : S.length ≤ 1000000) :
    CW Tryd.prog X 79 [.slice (some ⟨n, 0, none⟩) S.length c, .func (.func 80) #[] #[.pointer (some ⟨q, 0, none⟩)]] σ fun v σ' => v = .int .i64 (idx (S.map (·.name)) nd.name) ∧ σ <+: σ' := by
  refine cw_in Tryd.func79 rfl Tryd.ntmps79 (rs := [.tmp 4]) rfl (by kernel_rfl) (by exact Nat.le_of_ble_eq_true rfl) ?_
  have hsl := Sy.len S
  simp only [go_sem, ↓reduceIte, Nat.reduceEqDiff, Nat.reduceAdd, Nat.reduceMul, Nat.reduceLT, Nat.reduceLeDiff, Int.reduceLT, Int.reduceLE, Int.reduceNeg, Int.reduceAdd, Int.reduceSub, Int.reduceMul, Int.reduceToNat, Int.reduceEq, Int.reduceNe, Int.cast_ofNat_Int, Int.natCast_one, Int.natCast_zero, Int.natCast_add, reduceCtorEq]
  refine LW_run (fun k T ρ => ∃ i : Nat, i + k = S.length ∧ σ <+: ρ ∧ T 0 = .slice (some ⟨n, 0, none⟩) S.length c ∧ T 1 = .func (.func 80) #[] #[.pointer (some ⟨q, 0, none⟩)] ∧ T 7 = .int .i64 S.length ∧ T 8 = .int .i64 i ∧ nd.name ∉ (S.map (·.name)).take i) S.length ⟨0, by simp, List.prefix_rfl, rfl, rfl, rfl, rfl, by simp⟩ ?_
  rintro k T ρ ⟨i, hk, hp, t0, t1, t7, t8, hv⟩
  have hl' := look_prefix hp hl
  have hq' := look_prefix hp hq
  simp only [go_sem, ↓reduceIte, Nat.reduceEqDiff, Nat.reduceAdd, Nat.reduceMul, Nat.reduceLT, Nat.reduceLeDiff, Int.reduceLT, Int.reduceLE, Int.reduceNeg, Int.reduceAdd, Int.reduceSub, Int.reduceMul, Int.reduceToNat, Int.reduceEq, Int.reduceNe, Int.cast_ofNat_Int, Int.natCast_one, Int.natCast_zero, Int.natCast_add, reduceCtorEq, t0, t1, t7, t8]
  refine fork_dec (fun _ => ?_) (fun _ => ?_)
  · rename_i hi
    have hw : IntKind.i64.wrap ((i : Int) + 1) = (i : Int) + 1 := wrap64 (by omega)
    obtain ⟨x, hx⟩ : ∃ x, S[i]? = some x := ⟨_, List.getElem?_eq_getElem (by omega)⟩
    have hx2 : (S.map (·.name))[i]? = some x.name := by rw [List.getElem?_map, hx]; rfl
    simp only [go_sem, ↓reduceIte, Nat.reduceEqDiff, Nat.reduceAdd, Nat.reduceMul, Nat.reduceLT, Nat.reduceLeDiff, Int.reduceLT, Int.reduceLE, Int.reduceNeg, Int.reduceAdd, Int.reduceSub, Int.reduceMul, Int.reduceToNat, Int.reduceEq, Int.reduceNe, Int.cast_ofNat_Int, Int.natCast_one, Int.natCast_zero, Int.natCast_add, reduceCtorEq, t0, t1, t7, t8, hi, hl', Sy.take hx, hsl, show i * 4 + 4 ≤ S.length * 4 by omega, Sy.cells]
    refine (f80_ok X x nd q oq sq _ hq').mono ?_
    rintro _ ρ1 ⟨rfl, hp1⟩
    by_cases he : x.name = nd.name
    · simp only [go_sem, ↓reduceIte, Nat.reduceEqDiff, Nat.reduceAdd, Nat.reduceMul, Nat.reduceLT, Nat.reduceLeDiff, Int.reduceLT, Int.reduceLE, Int.reduceNeg, Int.reduceAdd, Int.reduceSub, Int.reduceMul, Int.reduceToNat, Int.reduceEq, Int.reduceNe, Int.cast_ofNat_Int, Int.natCast_one, Int.natCast_zero, Int.natCast_add, reduceCtorEq, t0, t1, t7, t8, eq_true he]
      refine ⟨?_, hp.trans hp1⟩
      rw [idx_hit _ nd.name i (by rw [hx2, he]) hv]
    · simp only [go_sem, ↓reduceIte, Nat.reduceEqDiff, Nat.reduceAdd, Nat.reduceMul, Nat.reduceLT, Nat.reduceLeDiff, Int.reduceLT, Int.reduceLE, Int.reduceNeg, Int.reduceAdd, Int.reduceSub, Int.reduceMul, Int.reduceToNat, Int.reduceEq, Int.reduceNe, Int.cast_ofNat_Int, Int.natCast_one, Int.natCast_zero, Int.natCast_add, reduceCtorEq, t0, t1, t7, t8, eq_false he, hw]
      refine ⟨k - 1, by omega, i + 1, by omega, hp.trans hp1, ?_⟩
      (repeat' (first | exact rfl | apply And.intro))
      exact not_take hx2 hv he
  · rename_i hi
    simp only [go_sem, ↓reduceIte, Nat.reduceEqDiff, Nat.reduceAdd, Nat.reduceMul, Nat.reduceLT, Nat.reduceLeDiff, Int.reduceLT, Int.reduceLE, Int.reduceNeg, Int.reduceAdd, Int.reduceSub, Int.reduceMul, Int.reduceToNat, Int.reduceEq, Int.reduceNe, Int.cast_ofNat_Int, Int.natCast_one, Int.natCast_zero, Int.natCast_add, reduceCtorEq, t0, hi]
    rw [List.take_of_length_le (by simp; omega)] at hv
    refine ⟨?_, hp⟩
    rw [idx_miss _ _ hv]
theorem f79_nil (X : Ext) (f : Value) (σ : Heap) : CW Tryd.prog X 79 [.slice none 0 0, f] σ fun v σ' => v = .int .i64 (-1) ∧ σ <+: σ' := by
  refine cw_in Tryd.func79 rfl Tryd.ntmps79 (rs := [.tmp 4]) rfl (by kernel_rfl) (by exact Nat.le_of_ble_eq_true rfl) ?_
  simp only [go_sem, ↓reduceIte, Nat.reduceEqDiff, Nat.reduceAdd, Nat.reduceMul, Nat.reduceLT, Nat.reduceLeDiff, Int.reduceLT, Int.reduceLE, Int.reduceNeg, Int.reduceAdd, Int.reduceSub, Int.reduceMul, Int.reduceToNat, Int.reduceEq, Int.reduceNe, Int.cast_ofNat_Int, Int.natCast_one, Int.natCast_zero, Int.natCast_add, reduceCtorEq]
  refine LW_unroll ?_
  simp only [go_sem, ↓reduceIte, Nat.reduceEqDiff, Nat.reduceAdd, Nat.reduceMul, Nat.reduceLT, Nat.reduceLeDiff, Int.reduceLT, Int.reduceLE, Int.reduceNeg, Int.reduceAdd, Int.reduceSub, Int.reduceMul, Int.reduceToNat, Int.reduceEq, Int.reduceNe, Int.cast_ofNat_Int, Int.natCast_one, Int.natCast_zero, Int.natCast_add, reduceCtorEq]
  first | exact List.prefix_rfl | exact ⟨rfl, List.prefix_rfl⟩
/-- The symbols: none, or a block of them. -/
def SB (σ : Heap) (S : List Sy) (v : Value) : Prop := (S = [] ∧ v = .slice none 0 0) ∨ ∃ n c ow sz, v = .slice (some ⟨n, 0, none⟩) S.length c ∧ look σ n = some ⟨S.flatMap Sy.cells, ow, sz⟩
theorem SB.mono {σ σ' : Heap} {S : List Sy} {v : Value} (h : SB σ S v) (hp : σ <+: σ') : SB σ' S v := by
  rcases h with h | ⟨n, c, ow, sz, h1, h2⟩
  · exact .inl h
  · exact .inr ⟨n, c, ow, sz, h1, look_prefix hp h2⟩
theorem f79_all (X : Ext) (S : List Sy) (nd : Nd) (sv : Value) (q : Nat) (oq : Bool) (sq : Nat) (σ : Heap) (hl : SB σ S sv) (hq : look σ q = some ⟨nd.cells, oq, sq⟩) (hS : S.length ≤ 1000000) :
    CW Tryd.prog X 79 [sv, .func (.func 80) #[] #[.pointer (some ⟨q, 0, none⟩)]] σ fun v σ' => v = .int .i64 (idx (S.map (·.name)) nd.name) ∧ σ <+: σ' := by
  rcases hl with ⟨rfl, rfl⟩ | ⟨n, c, ow, sz, rfl, hl⟩
  · exact (f79_nil X _ σ).mono fun v σ' h => ⟨h.1, h.2⟩
  · exact f79_ok X S nd n c q ow oq sz sq σ hl hq hS
def symErr (x : Sy) : Int :=
  if nameOk x.name = false ∨ (decide (x.lin.sym = []) || nameOk x.lin.sym) = false ∨ (decide (x.lin.minus = []) || nameOk x.lin.minus) = false then 12
  else if 1099511627776 < x.lin.num ∨ x.lin.num < -1099511627776 ∨ (x.lin.sym = x.lin.minus ∧ x.lin.sym ≠ []) then 3 else 0
def firstS : Nat → List Sy → Int × Int
  | _, [] => (0, 0)
  | i, x :: l => if symErr x ≠ 0 then (symErr x, -10 - (i : Int)) else firstS (i + 1) l
def symsFault (S : List Sy) : Int × Int := if 8000 < S.length then (2, -2) else firstS 0 S
def Sy.few (x : Sy) : Prop := x.name.length ≤ 140737488351232 ∧ x.lin.sym.length ≤ 140737488351232 ∧ x.lin.minus.length ≤ 140737488351232
set_option maxHeartbeats 2000000 in
theorem f52_ok (X : Ext) (S : List Sy) (n c : Nat) (ow : Bool) (sz : Nat) (σ : Heap) (hl : look σ n = some ⟨S.flatMap Sy.cells, ow, sz⟩) (ht : ∀ x ∈ S, x.few) (hz : S.length ≤ 140737488351232) :
    CW Tryd.prog X 52 [.slice (some ⟨n, 0, none⟩) S.length c] σ fun v σ' => v = faultV (symsFault S) ∧ σ <+: σ' := by
  refine cw_in Tryd.func52 rfl Tryd.ntmps52 (rs := [.cell 2 26]) rfl (by kernel_rfl) (by exact Nat.le_of_ble_eq_true rfl) ?_
  have hn : n < σ.length := look_lt hl
  have hel := Sy.len S
  by_cases h8 : 8000 < S.length
  · simp only [go_sem, ↓reduceIte, Nat.reduceEqDiff, Nat.reduceAdd, Nat.reduceMul, Nat.reduceLT, Nat.reduceLeDiff, Int.reduceLT, Int.reduceLE, Int.reduceNeg, Int.reduceAdd, Int.reduceSub, Int.reduceMul, Int.reduceToNat, Int.reduceEq, Int.reduceNe, Int.cast_ofNat_Int, Int.natCast_one, Int.natCast_zero, Int.natCast_add, reduceCtorEq, show (8000 : Int) < (S.length : Int) by omega]
    refine ⟨?_, List.prefix_append _ _⟩
    rw [symsFault, if_pos h8]
    rfl
  simp only [go_sem, ↓reduceIte, Nat.reduceEqDiff, Nat.reduceAdd, Nat.reduceMul, Nat.reduceLT, Nat.reduceLeDiff, Int.reduceLT, Int.reduceLE, Int.reduceNeg, Int.reduceAdd, Int.reduceSub, Int.reduceMul, Int.reduceToNat, Int.reduceEq, Int.reduceNe, Int.cast_ofNat_Int, Int.natCast_one, Int.natCast_zero, Int.natCast_add, reduceCtorEq, show ¬ (8000 : Int) < (S.length : Int) by omega]
  have he : symsFault S = firstS 0 S := by rw [symsFault, if_neg h8]
  rw [he]
  refine LW_run (fun k T ρ => ∃ (i : Nat) (τ : Heap), i + k = S.length ∧ ρ = σ ++ some ⟨[.int .i64 0, .int .i64 0], true, 0⟩ :: τ ∧ T 2 = .pointer (some ⟨σ.length, 0, none⟩) ∧ T 11 = .slice (some ⟨n, 0, none⟩) S.length c ∧ T 12 = .int .i64 S.length ∧ T 13 = .int .i64 i
      ∧ firstS 0 S = firstS i (S.drop i)) S.length ⟨0, [], by simp, rfl, rfl, rfl, rfl, rfl, rfl⟩ ?_
  rintro k T _ ⟨i, τ, hk, rfl, t2, t11, t12, t13, hv⟩
  simp only [go_sem, ↓reduceIte, Nat.reduceEqDiff, Nat.reduceAdd, Nat.reduceMul, Nat.reduceLT, Nat.reduceLeDiff, Int.reduceLT, Int.reduceLE, Int.reduceNeg, Int.reduceAdd, Int.reduceSub, Int.reduceMul, Int.reduceToNat, Int.reduceEq, Int.reduceNe, Int.cast_ofNat_Int, Int.natCast_one, Int.natCast_zero, Int.natCast_add, reduceCtorEq, t2, t11, t12, t13]
  refine fork_dec (fun _ => ?_) (fun _ => ?_)
  · rename_i hi
    obtain ⟨x, hx⟩ : ∃ x, S[i]? = some x := ⟨_, List.getElem?_eq_getElem (by omega)⟩
    have hw : IntKind.i64.wrap ((i : Int) + 1) = (i : Int) + 1 := wrap64 (by omega)
    have hw10 : IntKind.i64.wrap (-10 - (i : Int)) = -10 - (i : Int) := wrap64 (by omega)
    obtain ⟨m1, m2, m3⟩ := ht x (List.mem_of_getElem? hx)
    rw [drop_at hx, firstS] at hv
    have bad : ∀ e : Int, e ≠ 0 → symErr x = e → firstS 0 S = (e, -10 - (i : Int)) := fun e h1 h2 => by rw [hv, h2, if_pos h1]
    have good : symErr x = 0 → firstS 0 S = firstS (i + 1) (S.drop (i + 1)) := fun h2 => by rw [hv, h2, if_neg (by simp)]
    simp only [go_sem, ↓reduceIte, Nat.reduceEqDiff, Nat.reduceAdd, Nat.reduceMul, Nat.reduceLT, Nat.reduceLeDiff, Int.reduceLT, Int.reduceLE, Int.reduceNeg, Int.reduceAdd, Int.reduceSub, Int.reduceMul, Int.reduceToNat, Int.reduceEq, Int.reduceNe, Int.cast_ofNat_Int, Int.natCast_one, Int.natCast_zero, Int.natCast_add, reduceCtorEq, t2, t11, t12, t13, hi, look_app_lt hn, hl, Sy.take hx, hel, show i * 4 + 4 ≤ S.length * 4 by omega, Sy.cells]
    refine (f55_ok X x.name m1 _).mono ?_
    rintro _ _ ⟨rfl, rfl⟩
    cases q1 : nameOk x.name with
    | false =>
      simp only [go_sem, ↓reduceIte, Nat.reduceEqDiff, Nat.reduceAdd, Nat.reduceMul, Nat.reduceLT, Nat.reduceLeDiff, Int.reduceLT, Int.reduceLE, Int.reduceNeg, Int.reduceAdd, Int.reduceSub, Int.reduceMul, Int.reduceToNat, Int.reduceEq, Int.reduceNe, Int.cast_ofNat_Int, Int.natCast_one, Int.natCast_zero, Int.natCast_add, reduceCtorEq, t2, t11, t12, t13, hw10]
      rw [bad 12 (by omega) (by rw [symErr, if_pos (.inl q1)])]
      exact ⟨rfl, List.prefix_append _ _⟩
    | true =>
      simp only [go_sem, ↓reduceIte, Nat.reduceEqDiff, Nat.reduceAdd, Nat.reduceMul, Nat.reduceLT, Nat.reduceLeDiff, Int.reduceLT, Int.reduceLE, Int.reduceNeg, Int.reduceAdd, Int.reduceSub, Int.reduceMul, Int.reduceToNat, Int.reduceEq, Int.reduceNe, Int.cast_ofNat_Int, Int.natCast_one, Int.natCast_zero, Int.natCast_add, reduceCtorEq, t2, t11, t12, t13]
      refine (f78_ok X x.lin.sym m2 _).mono ?_
      rintro _ _ ⟨rfl, rfl⟩
      cases q2 : (decide (x.lin.sym = []) || nameOk x.lin.sym) with
      | false =>
        simp only [go_sem, ↓reduceIte, Nat.reduceEqDiff, Nat.reduceAdd, Nat.reduceMul, Nat.reduceLT, Nat.reduceLeDiff, Int.reduceLT, Int.reduceLE, Int.reduceNeg, Int.reduceAdd, Int.reduceSub, Int.reduceMul, Int.reduceToNat, Int.reduceEq, Int.reduceNe, Int.cast_ofNat_Int, Int.natCast_one, Int.natCast_zero, Int.natCast_add, reduceCtorEq, t2, t11, t12, t13, hw10]
        rw [bad 12 (by omega) (by rw [symErr, if_pos (.inr (.inl q2))])]
        exact ⟨rfl, List.prefix_append _ _⟩
      | true =>
        simp only [go_sem, ↓reduceIte, Nat.reduceEqDiff, Nat.reduceAdd, Nat.reduceMul, Nat.reduceLT, Nat.reduceLeDiff, Int.reduceLT, Int.reduceLE, Int.reduceNeg, Int.reduceAdd, Int.reduceSub, Int.reduceMul, Int.reduceToNat, Int.reduceEq, Int.reduceNe, Int.cast_ofNat_Int, Int.natCast_one, Int.natCast_zero, Int.natCast_add, reduceCtorEq, t2, t11, t12, t13]
        refine (f78_ok X x.lin.minus m3 _).mono ?_
        rintro _ _ ⟨rfl, rfl⟩
        cases q3 : (decide (x.lin.minus = []) || nameOk x.lin.minus) with
        | false =>
          simp only [go_sem, ↓reduceIte, Nat.reduceEqDiff, Nat.reduceAdd, Nat.reduceMul, Nat.reduceLT, Nat.reduceLeDiff, Int.reduceLT, Int.reduceLE, Int.reduceNeg, Int.reduceAdd, Int.reduceSub, Int.reduceMul, Int.reduceToNat, Int.reduceEq, Int.reduceNe, Int.cast_ofNat_Int, Int.natCast_one, Int.natCast_zero, Int.natCast_add, reduceCtorEq, t2, t11, t12, t13, hw10]
          rw [bad 12 (by omega) (by rw [symErr, if_pos (.inr (.inr q3))])]
          exact ⟨rfl, List.prefix_append _ _⟩
        | true =>
          have es : symErr x = if 1099511627776 < x.lin.num ∨ x.lin.num < -1099511627776 ∨ (x.lin.sym = x.lin.minus ∧ x.lin.sym ≠ []) then 3 else 0 := by
            rw [symErr, if_neg (by rw [q1, q2, q3]; simp)]
          rw [es] at bad good
          by_cases p1 : 1099511627776 < x.lin.num
          · simp only [go_sem, ↓reduceIte, Nat.reduceEqDiff, Nat.reduceAdd, Nat.reduceMul, Nat.reduceLT, Nat.reduceLeDiff, Int.reduceLT, Int.reduceLE, Int.reduceNeg, Int.reduceAdd, Int.reduceSub, Int.reduceMul, Int.reduceToNat, Int.reduceEq, Int.reduceNe, Int.cast_ofNat_Int, Int.natCast_one, Int.natCast_zero, Int.natCast_add, reduceCtorEq, t2, t11, t12, t13, hw10, p1]
            rw [bad 3 (by omega) (by rw [if_pos (.inl p1)])]
            exact ⟨rfl, List.prefix_append _ _⟩
          · by_cases p2 : x.lin.num < -1099511627776
            · simp only [go_sem, ↓reduceIte, Nat.reduceEqDiff, Nat.reduceAdd, Nat.reduceMul, Nat.reduceLT, Nat.reduceLeDiff, Int.reduceLT, Int.reduceLE, Int.reduceNeg, Int.reduceAdd, Int.reduceSub, Int.reduceMul, Int.reduceToNat, Int.reduceEq, Int.reduceNe, Int.cast_ofNat_Int, Int.natCast_one, Int.natCast_zero, Int.natCast_add, reduceCtorEq, t2, t11, t12, t13, hw10, p1, p2]
              rw [bad 3 (by omega) (by rw [if_pos (.inr (.inl p2))])]
              exact ⟨rfl, List.prefix_append _ _⟩
            · by_cases p3 : x.lin.sym = x.lin.minus
              · by_cases p4 : x.lin.sym = []
                · have p5 : x.lin.minus = [] := p3 ▸ p4
                  simp only [go_sem, ↓reduceIte, Nat.reduceEqDiff, Nat.reduceAdd, Nat.reduceMul, Nat.reduceLT, Nat.reduceLeDiff, Int.reduceLT, Int.reduceLE, Int.reduceNeg, Int.reduceAdd, Int.reduceSub, Int.reduceMul, Int.reduceToNat, Int.reduceEq, Int.reduceNe, Int.cast_ofNat_Int, Int.natCast_one, Int.natCast_zero, Int.natCast_add, reduceCtorEq, t2, t11, t12, t13, hw, p1, p2, p4, p5]
                  refine ⟨k - 1, by omega, i + 1, _, by omega, rfl, ?_⟩
                  (repeat' (first | exact rfl | apply And.intro))
                  exact good (by rw [if_neg (fun h => h.elim p1 (fun h => h.elim p2 (fun h => h.2 p4)))])
                · simp only [go_sem, ↓reduceIte, Nat.reduceEqDiff, Nat.reduceAdd, Nat.reduceMul, Nat.reduceLT, Nat.reduceLeDiff, Int.reduceLT, Int.reduceLE, Int.reduceNeg, Int.reduceAdd, Int.reduceSub, Int.reduceMul, Int.reduceToNat, Int.reduceEq, Int.reduceNe, Int.cast_ofNat_Int, Int.natCast_one, Int.natCast_zero, Int.natCast_add, reduceCtorEq, t2, t11, t12, t13, hw10, p1, p2, eq_true p3, eq_false p4]
                  rw [bad 3 (by omega) (by rw [if_pos (.inr (.inr ⟨p3, p4⟩))])]
                  exact ⟨rfl, List.prefix_append _ _⟩
              · simp only [go_sem, ↓reduceIte, Nat.reduceEqDiff, Nat.reduceAdd, Nat.reduceMul, Nat.reduceLT, Nat.reduceLeDiff, Int.reduceLT, Int.reduceLE, Int.reduceNeg, Int.reduceAdd, Int.reduceSub, Int.reduceMul, Int.reduceToNat, Int.reduceEq, Int.reduceNe, Int.cast_ofNat_Int, Int.natCast_one, Int.natCast_zero, Int.natCast_add, reduceCtorEq, t2, t11, t12, t13, hw, p1, p2, eq_false p3]
                refine ⟨k - 1, by omega, i + 1, _, by omega, rfl, ?_⟩
                (repeat' (first | exact rfl | apply And.intro))
                exact good (by rw [if_neg (fun h => h.elim p1 (fun h => h.elim p2 (fun h => p3 h.1)))])
  · rename_i hi
    simp only [go_sem, ↓reduceIte, Nat.reduceEqDiff, Nat.reduceAdd, Nat.reduceMul, Nat.reduceLT, Nat.reduceLeDiff, Int.reduceLT, Int.reduceLE, Int.reduceNeg, Int.reduceAdd, Int.reduceSub, Int.reduceMul, Int.reduceToNat, Int.reduceEq, Int.reduceNe, Int.cast_ofNat_Int, Int.natCast_one, Int.natCast_zero, Int.natCast_add, reduceCtorEq, t2, t11, t12, t13, hi]
    rw [hv, show S.drop i = [] from List.drop_eq_nil_of_le (by omega)]
    exact ⟨rfl, List.prefix_append _ _⟩
theorem f52_nil (X : Ext) (σ : Heap) : CW Tryd.prog X 52 [.slice none 0 0] σ fun v σ' => v = faultV (0, 0) ∧ σ <+: σ' := by
  refine cw_in Tryd.func52 rfl Tryd.ntmps52 (rs := [.cell 2 26]) rfl (by kernel_rfl) (by exact Nat.le_of_ble_eq_true rfl) ?_
  simp only [go_sem, ↓reduceIte, Nat.reduceEqDiff, Nat.reduceAdd, Nat.reduceMul, Nat.reduceLT, Nat.reduceLeDiff, Int.reduceLT, Int.reduceLE, Int.reduceNeg, Int.reduceAdd, Int.reduceSub, Int.reduceMul, Int.reduceToNat, Int.reduceEq, Int.reduceNe, Int.cast_ofNat_Int, Int.natCast_one, Int.natCast_zero, Int.natCast_add, reduceCtorEq]
  refine LW_unroll ?_
  simp only [go_sem, ↓reduceIte, Nat.reduceEqDiff, Nat.reduceAdd, Nat.reduceMul, Nat.reduceLT, Nat.reduceLeDiff, Int.reduceLT, Int.reduceLE, Int.reduceNeg, Int.reduceAdd, Int.reduceSub, Int.reduceMul, Int.reduceToNat, Int.reduceEq, Int.reduceNe, Int.cast_ofNat_Int, Int.natCast_one, Int.natCast_zero, Int.natCast_add, reduceCtorEq]
  first | exact List.prefix_append _ _ | exact ⟨rfl, List.prefix_append _ _⟩
theorem f52_all (X : Ext) (S : List Sy) (sv : Value) (σ : Heap) (hl : SB σ S sv) (ht : ∀ x ∈ S, x.few) (hz : S.length ≤ 140737488351232) : CW Tryd.prog X 52 [sv] σ fun v σ' => v = faultV (symsFault S) ∧ σ <+: σ' := by
  rcases hl with ⟨rfl, rfl⟩ | ⟨n, c, ow, sz, rfl, hl⟩
  · exact (f52_nil X σ).mono fun v σ' h => ⟨h.1, h.2⟩
  · exact f52_ok X S n c ow sz σ hl ht hz
end Go.Proofs.YtkgdkommahgakaaDoor.Abs

namespace Go.Proofs.YtkgdkommahgakaaDoor.Abs
open Go Go.RowKit Gram
set_option linter.unusedVariables false
set_option linter.unusedSimpArgs false
set_option maxRecDepth 100000

attribute [go_sem] List.map_toArray
def argA (x : Nd) (V : List Lin) : Lin := if 2 < x.kind then V.getD x.left.toNat Lin.zero else Lin.zero
def argB (x : Nd) (V : List Lin) : Lin := if 4 < x.kind then V.getD x.right.toNat Lin.zero else Lin.zero
def codeOf (ok : Bool) (c : Int) (n : Int) : Int := if ok = false then 8 else if c = 0 ∧ (1099511627776 < n ∨ n < -1099511627776) then 10 else c
def rawVal (x : Nd) (V : List Lin) (S : List Sy) : Lin × Bool × Int :=
  if x.kind = 1 then (⟨[], [], x.value⟩, true, 0)
  else if x.kind = 2 then ((if 0 ≤ idx (S.map (·.name)) x.name then (S[(idx (S.map (·.name)) x.name).toNat]?.map (·.lin)).getD Lin.zero else ⟨x.name, [], 0⟩), true, 0)
  else if x.kind = 3 then ((addL Lin.zero (argA x V) (-1)).getD Lin.zero, (addL Lin.zero (argA x V) (-1)).isSome, 0)
  else if x.kind = 5 then ((addL (argA x V) (argB x V) 1).getD Lin.zero, (addL (argA x V) (argB x V) 1).isSome, 0)
  else if x.kind = 6 then ((addL (argA x V) (argB x V) (-1)).getD Lin.zero, (addL (argA x V) (argB x V) (-1)).isSome, 0)
  else if x.kind = 4 then (⟨[], [], Go.bits .xor .i64 (-1) (argA x V).num⟩, (argA x V).flat, 0)
  else if ((argA x V).flat && (argB x V).flat) = true then (⟨[], [], (calcOf x.kind (argA x V).num (argB x V).num).1⟩, true, (calcOf x.kind (argA x V).num (argB x V).num).2)
  else (Lin.zero, false, 0)
def nodeVal (x : Nd) (V : List Lin) (S : List Sy) : Lin × Int := ((rawVal x V S).1, codeOf (rawVal x V S).2.1 (rawVal x V S).2.2 (rawVal x V S).1.num)
/-- The values so far. -/
def VV (σ : Heap) (V : List Lin) (v : Value) : Prop := (V = [] ∧ v = .slice none 0 0) ∨ ∃ q c, v = .slice (some ⟨q, 0, none⟩) V.length c ∧ 0 < V.length ∧ look σ q = some ⟨V.flatMap Lin.cells, true, 3⟩
theorem Lin.len (L : List Lin) : (L.flatMap Lin.cells).length = L.length * 3 := by
  induction L with
  | nil => rfl
  | cons x L ih => simp only [List.flatMap_cons, List.length_append, ih, List.length_cons, Lin.cells, List.length_nil]; omega
theorem Lin.take {x : Lin} {L : List Lin} {i : Nat} (h : L[i]? = some x) : ((L.flatMap Lin.cells).drop (i * 3)).take 3 = x.cells := chunk_at Lin.cells 3 (fun _ => rfl) x L i h
theorem Sy.drop1 {x : Sy} {L : List Sy} {i : Nat} (h : L[i]? = some x) : ((L.flatMap Sy.cells).drop (i * 4 + 1)).take 3 = x.lin.cells := by
  have := Sy.take h
  rw [← List.drop_drop]
  have h2 : (((L.flatMap Sy.cells).drop (i * 4)).take 4).drop 1 = x.cells.drop 1 := by rw [this]
  rw [List.drop_take] at h2
  exact h2
theorem idx_lt (L : List (List UInt8)) (s : List UInt8) : idx L s < L.length ∨ idx L s = -1 := by
  by_cases h : s ∈ L
  · left
    induction L with
    | nil => simp at h
    | cons x L ih =>
      unfold idx
      split
      · first | (simp; done) | (simp; omega)
      · rename_i hx
        have := ih (by simpa [Ne.symm (show x ≠ s from hx), eq_comm] using h)
        split
        · first | (simp; done) | (simp; omega)
        · first | (simp; done) | (simp; omega)
  · exact .inr (idx_miss L s h)
theorem zero_small : Lin.zero.small := by
  unfold Lin.small Lin.zero
  simp

set_option maxHeartbeats 4000000 in
theorem f53_ok (X : Ext) (x : Nd) (V : List Lin) (S : List Sy) (nv sv : Value) (σ : Heap) (hV : VV σ V nv) (hl : SB σ S sv) (hS : S.length ≤ 1000000)
    (hk : 1 ≤ x.kind ∧ x.kind ≤ 14) (hleft : 2 < x.kind → 0 ≤ x.left ∧ x.left < V.length) (hright : 4 < x.kind → 0 ≤ x.right ∧ x.right < V.length) (hsm : ∀ v ∈ V, v.small) :
    CW Tryd.prog X 53 [.agg x.cells.toArray, nv, sv] σ fun v σ' => v = .tuple #[.agg (nodeVal x V S).1.cells.toArray, .int .i64 (nodeVal x V S).2] ∧ σ <+: σ' := by
  refine cw_in Tryd.func53 rfl Tryd.ntmps53 (rs := [.cell 6 40, .tmp 7]) rfl (by kernel_rfl) (by exact Nat.le_of_ble_eq_true rfl) ?_
  have hvl := Lin.len V
  unfold nodeVal codeOf
  by_cases k1 : x.kind = 1
  · have e : rawVal x V S = (⟨[], [], x.value⟩, true, 0) := by rw [rawVal, if_pos k1]
    rw [e]
    simp only [go_sem, ↓reduceIte, Nat.reduceEqDiff, Nat.reduceAdd, Nat.reduceMul, Nat.reduceLT, Nat.reduceLeDiff, Int.reduceLT, Int.reduceLE, Int.reduceNeg, Int.reduceAdd, Int.reduceSub, Int.reduceMul, Int.reduceToNat, Int.reduceEq, Int.reduceNe, Int.cast_ofNat_Int, Int.natCast_one, Int.natCast_zero, Int.natCast_add, reduceCtorEq, Nd.cells, k1]
    by_cases c1 : 1099511627776 < x.value
    · simp only [go_sem, ↓reduceIte, Nat.reduceEqDiff, Nat.reduceAdd, Nat.reduceMul, Nat.reduceLT, Nat.reduceLeDiff, Int.reduceLT, Int.reduceLE, Int.reduceNeg, Int.reduceAdd, Int.reduceSub, Int.reduceMul, Int.reduceToNat, Int.reduceEq, Int.reduceNe, Int.cast_ofNat_Int, Int.natCast_one, Int.natCast_zero, Int.natCast_add, reduceCtorEq, Lin.cells, Lin.zero, eq_true c1, k1]
      first | exact List.prefix_append _ _ | exact ⟨rfl, List.prefix_append _ _⟩
    · by_cases c2 : x.value < -1099511627776
      · simp only [go_sem, ↓reduceIte, Nat.reduceEqDiff, Nat.reduceAdd, Nat.reduceMul, Nat.reduceLT, Nat.reduceLeDiff, Int.reduceLT, Int.reduceLE, Int.reduceNeg, Int.reduceAdd, Int.reduceSub, Int.reduceMul, Int.reduceToNat, Int.reduceEq, Int.reduceNe, Int.cast_ofNat_Int, Int.natCast_one, Int.natCast_zero, Int.natCast_add, reduceCtorEq, Lin.cells, Lin.zero, eq_false c1, eq_true c2, k1]
        first | exact List.prefix_append _ _ | exact ⟨rfl, List.prefix_append _ _⟩
      · simp only [go_sem, ↓reduceIte, Nat.reduceEqDiff, Nat.reduceAdd, Nat.reduceMul, Nat.reduceLT, Nat.reduceLeDiff, Int.reduceLT, Int.reduceLE, Int.reduceNeg, Int.reduceAdd, Int.reduceSub, Int.reduceMul, Int.reduceToNat, Int.reduceEq, Int.reduceNe, Int.cast_ofNat_Int, Int.natCast_one, Int.natCast_zero, Int.natCast_add, reduceCtorEq, Lin.cells, Lin.zero, eq_false c1, eq_false c2, k1]
        first | exact List.prefix_append _ _ | exact ⟨rfl, List.prefix_append _ _⟩
  by_cases k2 : x.kind = 2
  · have e : rawVal x V S = ((if 0 ≤ idx (S.map (·.name)) x.name then (S[(idx (S.map (·.name)) x.name).toNat]?.map (·.lin)).getD Lin.zero else ⟨x.name, [], 0⟩), true, 0) := by rw [rawVal, if_neg k1, if_pos k2]
    rw [e]
    simp only [go_sem, ↓reduceIte, Nat.reduceEqDiff, Nat.reduceAdd, Nat.reduceMul, Nat.reduceLT, Nat.reduceLeDiff, Int.reduceLT, Int.reduceLE, Int.reduceNeg, Int.reduceAdd, Int.reduceSub, Int.reduceMul, Int.reduceToNat, Int.reduceEq, Int.reduceNe, Int.cast_ofNat_Int, Int.natCast_one, Int.natCast_zero, Int.natCast_add, reduceCtorEq, Nd.cells, k2]
    refine (f79_all X S x sv σ.length true 0 _ (hl.mono (List.prefix_append _ _)) ?hq hS).mono ?_
    case hq => rw [look_app_new, look_zero]; simp only [Nd.cells, k2]
    rintro _ ρ ⟨rfl, τ, rfl⟩
    by_cases hi : 0 ≤ idx (S.map (·.name)) x.name
    · have hlt := idx_lt (S.map (·.name)) x.name
      rw [if_pos hi]
      obtain ⟨j, hj⟩ := Int.eq_ofNat_of_zero_le hi
      rw [hj] at hlt ⊢
      have hjl : j < S.length := by simp at hlt; omega
      obtain ⟨y, hy⟩ : ∃ y, S[j]? = some y := ⟨_, List.getElem?_eq_getElem hjl⟩
      have hyd := Sy.drop1 hy
      rcases hl with ⟨rfl, _⟩ | ⟨n, c, ow, sz, rfl, hl⟩
      · simp at hjl
      have hn := look_lt hl
      have hsl := Sy.len S
      simp only [go_sem, ↓reduceIte, Nat.reduceEqDiff, Nat.reduceAdd, Nat.reduceMul, Nat.reduceLT, Nat.reduceLeDiff, Int.reduceLT, Int.reduceLE, Int.reduceNeg, Int.reduceAdd, Int.reduceSub, Int.reduceMul, Int.reduceToNat, Int.reduceEq, Int.reduceNe, Int.cast_ofNat_Int, Int.natCast_one, Int.natCast_zero, Int.natCast_add, reduceCtorEq, show 0 ≤ (j : Int) by omega, show (j : Int) < (S.length : Int) by omega, look_app_lt hn, hl, hyd, hsl, show j * 4 + 1 + 3 ≤ S.length * 4 by omega, hy, Option.getD_some, Lin.cells]
      by_cases c1 : 1099511627776 < y.lin.num
      · simp only [go_sem, ↓reduceIte, Nat.reduceEqDiff, Nat.reduceAdd, Nat.reduceMul, Nat.reduceLT, Nat.reduceLeDiff, Int.reduceLT, Int.reduceLE, Int.reduceNeg, Int.reduceAdd, Int.reduceSub, Int.reduceMul, Int.reduceToNat, Int.reduceEq, Int.reduceNe, Int.cast_ofNat_Int, Int.natCast_one, Int.natCast_zero, Int.natCast_add, reduceCtorEq, Lin.cells, Lin.zero, eq_true c1, hy]
        first | exact List.prefix_append _ _ | exact ⟨rfl, List.prefix_append _ _⟩
      · by_cases c2 : y.lin.num < -1099511627776
        · simp only [go_sem, ↓reduceIte, Nat.reduceEqDiff, Nat.reduceAdd, Nat.reduceMul, Nat.reduceLT, Nat.reduceLeDiff, Int.reduceLT, Int.reduceLE, Int.reduceNeg, Int.reduceAdd, Int.reduceSub, Int.reduceMul, Int.reduceToNat, Int.reduceEq, Int.reduceNe, Int.cast_ofNat_Int, Int.natCast_one, Int.natCast_zero, Int.natCast_add, reduceCtorEq, Lin.cells, Lin.zero, eq_false c1, eq_true c2, hy]
          first | exact List.prefix_append _ _ | exact ⟨rfl, List.prefix_append _ _⟩
        · simp only [go_sem, ↓reduceIte, Nat.reduceEqDiff, Nat.reduceAdd, Nat.reduceMul, Nat.reduceLT, Nat.reduceLeDiff, Int.reduceLT, Int.reduceLE, Int.reduceNeg, Int.reduceAdd, Int.reduceSub, Int.reduceMul, Int.reduceToNat, Int.reduceEq, Int.reduceNe, Int.cast_ofNat_Int, Int.natCast_one, Int.natCast_zero, Int.natCast_add, reduceCtorEq, Lin.cells, Lin.zero, eq_false c1, eq_false c2, hy]
          first | exact List.prefix_append _ _ | exact ⟨rfl, List.prefix_append _ _⟩
    · rw [if_neg hi]
      simp only [go_sem, ↓reduceIte, Nat.reduceEqDiff, Nat.reduceAdd, Nat.reduceMul, Nat.reduceLT, Nat.reduceLeDiff, Int.reduceLT, Int.reduceLE, Int.reduceNeg, Int.reduceAdd, Int.reduceSub, Int.reduceMul, Int.reduceToNat, Int.reduceEq, Int.reduceNe, Int.cast_ofNat_Int, Int.natCast_one, Int.natCast_zero, Int.natCast_add, reduceCtorEq, hi, Lin.cells, or_self]
      first | exact List.prefix_append _ _ | exact ⟨rfl, List.prefix_append _ _⟩
  obtain ⟨hl0, hl1⟩ := hleft (by omega)
  obtain ⟨l, hlq⟩ := Int.eq_ofNat_of_zero_le hl0
  have hll : l < V.length := by omega
  obtain ⟨a, ha⟩ : ∃ a, V[l]? = some a := ⟨_, List.getElem?_eq_getElem hll⟩
  have hA : argA x V = a := by
    rw [argA, if_pos (by omega), hlq, Int.toNat_natCast, List.getD_eq_getElem?_getD, ha]
    rfl
  have has := hsm a (List.mem_of_getElem? ha)
  have hta := Lin.take ha
  rcases hV with ⟨rfl, _⟩ | ⟨q, cq, rfl, hpos, hq⟩
  · simp at hll
  have hqn := look_lt hq
  have hli : (l : Int) < (V.length : Int) := by omega
  have hlb : l * 3 + 3 ≤ V.length * 3 := by omega
  by_cases k3 : x.kind = 3
  · have e : rawVal x V S = ((addL Lin.zero a (-1)).getD Lin.zero, (addL Lin.zero a (-1)).isSome, 0) := by rw [rawVal, if_neg k1, if_neg k2, if_pos k3, hA]
    rw [e]
    simp only [go_sem, ↓reduceIte, Nat.reduceEqDiff, Nat.reduceAdd, Nat.reduceMul, Nat.reduceLT, Nat.reduceLeDiff, Int.reduceLT, Int.reduceLE, Int.reduceNeg, Int.reduceAdd, Int.reduceSub, Int.reduceMul, Int.reduceToNat, Int.reduceEq, Int.reduceNe, Int.cast_ofNat_Int, Int.natCast_one, Int.natCast_zero, Int.natCast_add, reduceCtorEq, Nd.cells, k3, hlq, hli, look_app_lt hqn, hq, hta, hvl, hlb, Lin.cells]
    refine (f81_ok X Lin.zero a (-1) zero_small has _).mono ?_
    rintro _ ρ ⟨rfl, τ, rfl⟩
    generalize (addL Lin.zero a (-1)).isSome = ok
    generalize (addL Lin.zero a (-1)).getD Lin.zero = r
    cases ok with
    | false =>
      simp only [go_sem, ↓reduceIte, Nat.reduceEqDiff, Nat.reduceAdd, Nat.reduceMul, Nat.reduceLT, Nat.reduceLeDiff, Int.reduceLT, Int.reduceLE, Int.reduceNeg, Int.reduceAdd, Int.reduceSub, Int.reduceMul, Int.reduceToNat, Int.reduceEq, Int.reduceNe, Int.cast_ofNat_Int, Int.natCast_one, Int.natCast_zero, Int.natCast_add, reduceCtorEq, Lin.cells, Lin.zero]
      first | exact List.prefix_append _ _ | exact ⟨rfl, List.prefix_append _ _⟩
    | true =>
      by_cases c1 : 1099511627776 < r.num
      · simp only [go_sem, ↓reduceIte, Nat.reduceEqDiff, Nat.reduceAdd, Nat.reduceMul, Nat.reduceLT, Nat.reduceLeDiff, Int.reduceLT, Int.reduceLE, Int.reduceNeg, Int.reduceAdd, Int.reduceSub, Int.reduceMul, Int.reduceToNat, Int.reduceEq, Int.reduceNe, Int.cast_ofNat_Int, Int.natCast_one, Int.natCast_zero, Int.natCast_add, reduceCtorEq, Lin.cells, Lin.zero, eq_true c1, k1]
        first | exact List.prefix_append _ _ | exact ⟨rfl, List.prefix_append _ _⟩
      · by_cases c2 : r.num < -1099511627776
        · simp only [go_sem, ↓reduceIte, Nat.reduceEqDiff, Nat.reduceAdd, Nat.reduceMul, Nat.reduceLT, Nat.reduceLeDiff, Int.reduceLT, Int.reduceLE, Int.reduceNeg, Int.reduceAdd, Int.reduceSub, Int.reduceMul, Int.reduceToNat, Int.reduceEq, Int.reduceNe, Int.cast_ofNat_Int, Int.natCast_one, Int.natCast_zero, Int.natCast_add, reduceCtorEq, Lin.cells, Lin.zero, eq_false c1, eq_true c2, k1]
          first | exact List.prefix_append _ _ | exact ⟨rfl, List.prefix_append _ _⟩
        · simp only [go_sem, ↓reduceIte, Nat.reduceEqDiff, Nat.reduceAdd, Nat.reduceMul, Nat.reduceLT, Nat.reduceLeDiff, Int.reduceLT, Int.reduceLE, Int.reduceNeg, Int.reduceAdd, Int.reduceSub, Int.reduceMul, Int.reduceToNat, Int.reduceEq, Int.reduceNe, Int.cast_ofNat_Int, Int.natCast_one, Int.natCast_zero, Int.natCast_add, reduceCtorEq, Lin.cells, Lin.zero, eq_false c1, eq_false c2, k1]
          first | exact List.prefix_append _ _ | exact ⟨rfl, List.prefix_append _ _⟩
  by_cases k4 : x.kind = 4
  · have e : rawVal x V S = (⟨[], [], Go.bits .xor .i64 (-1) a.num⟩, a.flat, 0) := by rw [rawVal, if_neg k1, if_neg k2, if_neg k3, if_neg (by omega), if_neg (by omega), if_pos k4, hA]
    rw [e]
    simp only [go_sem, ↓reduceIte, Nat.reduceEqDiff, Nat.reduceAdd, Nat.reduceMul, Nat.reduceLT, Nat.reduceLeDiff, Int.reduceLT, Int.reduceLE, Int.reduceNeg, Int.reduceAdd, Int.reduceSub, Int.reduceMul, Int.reduceToNat, Int.reduceEq, Int.reduceNe, Int.cast_ofNat_Int, Int.natCast_one, Int.natCast_zero, Int.natCast_add, reduceCtorEq, Nd.cells, k4, hlq, hli, look_app_lt hqn, hq, hta, hvl, hlb, Lin.cells]
    refine (f82_ok X a _).mono ?_
    rintro _ ρ ⟨rfl, τ, rfl⟩
    cases a.flat with
    | false =>
      simp only [go_sem, ↓reduceIte, Nat.reduceEqDiff, Nat.reduceAdd, Nat.reduceMul, Nat.reduceLT, Nat.reduceLeDiff, Int.reduceLT, Int.reduceLE, Int.reduceNeg, Int.reduceAdd, Int.reduceSub, Int.reduceMul, Int.reduceToNat, Int.reduceEq, Int.reduceNe, Int.cast_ofNat_Int, Int.natCast_one, Int.natCast_zero, Int.natCast_add, reduceCtorEq, Lin.cells, Lin.zero]
      first | exact List.prefix_append _ _ | exact ⟨rfl, List.prefix_append _ _⟩
    | true =>
      by_cases c1 : 1099511627776 < Go.bits .xor .i64 (-1) a.num
      · simp only [go_sem, ↓reduceIte, Nat.reduceEqDiff, Nat.reduceAdd, Nat.reduceMul, Nat.reduceLT, Nat.reduceLeDiff, Int.reduceLT, Int.reduceLE, Int.reduceNeg, Int.reduceAdd, Int.reduceSub, Int.reduceMul, Int.reduceToNat, Int.reduceEq, Int.reduceNe, Int.cast_ofNat_Int, Int.natCast_one, Int.natCast_zero, Int.natCast_add, reduceCtorEq, Lin.cells, Lin.zero, eq_true c1, k1]
        first | exact List.prefix_append _ _ | exact ⟨rfl, List.prefix_append _ _⟩
      · by_cases c2 : Go.bits .xor .i64 (-1) a.num < -1099511627776
        · simp only [go_sem, ↓reduceIte, Nat.reduceEqDiff, Nat.reduceAdd, Nat.reduceMul, Nat.reduceLT, Nat.reduceLeDiff, Int.reduceLT, Int.reduceLE, Int.reduceNeg, Int.reduceAdd, Int.reduceSub, Int.reduceMul, Int.reduceToNat, Int.reduceEq, Int.reduceNe, Int.cast_ofNat_Int, Int.natCast_one, Int.natCast_zero, Int.natCast_add, reduceCtorEq, Lin.cells, Lin.zero, eq_false c1, eq_true c2, k1]
          first | exact List.prefix_append _ _ | exact ⟨rfl, List.prefix_append _ _⟩
        · simp only [go_sem, ↓reduceIte, Nat.reduceEqDiff, Nat.reduceAdd, Nat.reduceMul, Nat.reduceLT, Nat.reduceLeDiff, Int.reduceLT, Int.reduceLE, Int.reduceNeg, Int.reduceAdd, Int.reduceSub, Int.reduceMul, Int.reduceToNat, Int.reduceEq, Int.reduceNe, Int.cast_ofNat_Int, Int.natCast_one, Int.natCast_zero, Int.natCast_add, reduceCtorEq, Lin.cells, Lin.zero, eq_false c1, eq_false c2, k1]
          first | exact List.prefix_append _ _ | exact ⟨rfl, List.prefix_append _ _⟩
  obtain ⟨hr0, hr1⟩ := hright (by omega)
  obtain ⟨r, hrq⟩ := Int.eq_ofNat_of_zero_le hr0
  have hrl : r < V.length := by omega
  obtain ⟨b, hb⟩ : ∃ b, V[r]? = some b := ⟨_, List.getElem?_eq_getElem hrl⟩
  have hB : argB x V = b := by
    rw [argB, if_pos (by omega), hrq, Int.toNat_natCast, List.getD_eq_getElem?_getD, hb]
    rfl
  have hbs := hsm b (List.mem_of_getElem? hb)
  have htb := Lin.take hb
  have hri : (r : Int) < (V.length : Int) := by omega
  have hrb : r * 3 + 3 ≤ V.length * 3 := by omega
  by_cases k5 : x.kind = 5
  · have e : rawVal x V S = ((addL a b 1).getD Lin.zero, (addL a b 1).isSome, 0) := by rw [rawVal, if_neg k1, if_neg k2, if_neg k3, if_pos k5, hA, hB]
    rw [e]
    simp only [go_sem, ↓reduceIte, Nat.reduceEqDiff, Nat.reduceAdd, Nat.reduceMul, Nat.reduceLT, Nat.reduceLeDiff, Int.reduceLT, Int.reduceLE, Int.reduceNeg, Int.reduceAdd, Int.reduceSub, Int.reduceMul, Int.reduceToNat, Int.reduceEq, Int.reduceNe, Int.cast_ofNat_Int, Int.natCast_one, Int.natCast_zero, Int.natCast_add, reduceCtorEq, Nd.cells, k5, hlq, hli, hrq, hri, look_app_lt hqn, hq, hta, htb, hvl, hlb, hrb, Lin.cells]
    refine (f81_ok X a b 1 has hbs _).mono ?_
    rintro _ ρ ⟨rfl, τ, rfl⟩
    generalize (addL a b 1).isSome = ok
    generalize (addL a b 1).getD Lin.zero = r
    cases ok with
    | false =>
      simp only [go_sem, ↓reduceIte, Nat.reduceEqDiff, Nat.reduceAdd, Nat.reduceMul, Nat.reduceLT, Nat.reduceLeDiff, Int.reduceLT, Int.reduceLE, Int.reduceNeg, Int.reduceAdd, Int.reduceSub, Int.reduceMul, Int.reduceToNat, Int.reduceEq, Int.reduceNe, Int.cast_ofNat_Int, Int.natCast_one, Int.natCast_zero, Int.natCast_add, reduceCtorEq, Lin.cells, Lin.zero]
      first | exact List.prefix_append _ _ | exact ⟨rfl, List.prefix_append _ _⟩
    | true =>
      by_cases c1 : 1099511627776 < r.num
      · simp only [go_sem, ↓reduceIte, Nat.reduceEqDiff, Nat.reduceAdd, Nat.reduceMul, Nat.reduceLT, Nat.reduceLeDiff, Int.reduceLT, Int.reduceLE, Int.reduceNeg, Int.reduceAdd, Int.reduceSub, Int.reduceMul, Int.reduceToNat, Int.reduceEq, Int.reduceNe, Int.cast_ofNat_Int, Int.natCast_one, Int.natCast_zero, Int.natCast_add, reduceCtorEq, Lin.cells, Lin.zero, eq_true c1, k1]
        first | exact List.prefix_append _ _ | exact ⟨rfl, List.prefix_append _ _⟩
      · by_cases c2 : r.num < -1099511627776
        · simp only [go_sem, ↓reduceIte, Nat.reduceEqDiff, Nat.reduceAdd, Nat.reduceMul, Nat.reduceLT, Nat.reduceLeDiff, Int.reduceLT, Int.reduceLE, Int.reduceNeg, Int.reduceAdd, Int.reduceSub, Int.reduceMul, Int.reduceToNat, Int.reduceEq, Int.reduceNe, Int.cast_ofNat_Int, Int.natCast_one, Int.natCast_zero, Int.natCast_add, reduceCtorEq, Lin.cells, Lin.zero, eq_false c1, eq_true c2, k1]
          first | exact List.prefix_append _ _ | exact ⟨rfl, List.prefix_append _ _⟩
        · simp only [go_sem, ↓reduceIte, Nat.reduceEqDiff, Nat.reduceAdd, Nat.reduceMul, Nat.reduceLT, Nat.reduceLeDiff, Int.reduceLT, Int.reduceLE, Int.reduceNeg, Int.reduceAdd, Int.reduceSub, Int.reduceMul, Int.reduceToNat, Int.reduceEq, Int.reduceNe, Int.cast_ofNat_Int, Int.natCast_one, Int.natCast_zero, Int.natCast_add, reduceCtorEq, Lin.cells, Lin.zero, eq_false c1, eq_false c2, k1]
          first | exact List.prefix_append _ _ | exact ⟨rfl, List.prefix_append _ _⟩
  by_cases k6 : x.kind = 6
  · have e : rawVal x V S = ((addL a b (-1)).getD Lin.zero, (addL a b (-1)).isSome, 0) := by rw [rawVal, if_neg k1, if_neg k2, if_neg k3, if_neg k5, if_pos k6, hA, hB]
    rw [e]
    simp only [go_sem, ↓reduceIte, Nat.reduceEqDiff, Nat.reduceAdd, Nat.reduceMul, Nat.reduceLT, Nat.reduceLeDiff, Int.reduceLT, Int.reduceLE, Int.reduceNeg, Int.reduceAdd, Int.reduceSub, Int.reduceMul, Int.reduceToNat, Int.reduceEq, Int.reduceNe, Int.cast_ofNat_Int, Int.natCast_one, Int.natCast_zero, Int.natCast_add, reduceCtorEq, Nd.cells, k6, hlq, hli, hrq, hri, look_app_lt hqn, hq, hta, htb, hvl, hlb, hrb, Lin.cells]
    refine (f81_ok X a b (-1) has hbs _).mono ?_
    rintro _ ρ ⟨rfl, τ, rfl⟩
    generalize (addL a b (-1)).isSome = ok
    generalize (addL a b (-1)).getD Lin.zero = r
    cases ok with
    | false =>
      simp only [go_sem, ↓reduceIte, Nat.reduceEqDiff, Nat.reduceAdd, Nat.reduceMul, Nat.reduceLT, Nat.reduceLeDiff, Int.reduceLT, Int.reduceLE, Int.reduceNeg, Int.reduceAdd, Int.reduceSub, Int.reduceMul, Int.reduceToNat, Int.reduceEq, Int.reduceNe, Int.cast_ofNat_Int, Int.natCast_one, Int.natCast_zero, Int.natCast_add, reduceCtorEq, Lin.cells, Lin.zero]
      first | exact List.prefix_append _ _ | exact ⟨rfl, List.prefix_append _ _⟩
    | true =>
      by_cases c1 : 1099511627776 < r.num
      · simp only [go_sem, ↓reduceIte, Nat.reduceEqDiff, Nat.reduceAdd, Nat.reduceMul, Nat.reduceLT, Nat.reduceLeDiff, Int.reduceLT, Int.reduceLE, Int.reduceNeg, Int.reduceAdd, Int.reduceSub, Int.reduceMul, Int.reduceToNat, Int.reduceEq, Int.reduceNe, Int.cast_ofNat_Int, Int.natCast_one, Int.natCast_zero, Int.natCast_add, reduceCtorEq, Lin.cells, Lin.zero, eq_true c1, k1]
        first | exact List.prefix_append _ _ | exact ⟨rfl, List.prefix_append _ _⟩
      · by_cases c2 : r.num < -1099511627776
        · simp only [go_sem, ↓reduceIte, Nat.reduceEqDiff, Nat.reduceAdd, Nat.reduceMul, Nat.reduceLT, Nat.reduceLeDiff, Int.reduceLT, Int.reduceLE, Int.reduceNeg, Int.reduceAdd, Int.reduceSub, Int.reduceMul, Int.reduceToNat, Int.reduceEq, Int.reduceNe, Int.cast_ofNat_Int, Int.natCast_one, Int.natCast_zero, Int.natCast_add, reduceCtorEq, Lin.cells, Lin.zero, eq_false c1, eq_true c2, k1]
          first | exact List.prefix_append _ _ | exact ⟨rfl, List.prefix_append _ _⟩
        · simp only [go_sem, ↓reduceIte, Nat.reduceEqDiff, Nat.reduceAdd, Nat.reduceMul, Nat.reduceLT, Nat.reduceLeDiff, Int.reduceLT, Int.reduceLE, Int.reduceNeg, Int.reduceAdd, Int.reduceSub, Int.reduceMul, Int.reduceToNat, Int.reduceEq, Int.reduceNe, Int.cast_ofNat_Int, Int.natCast_one, Int.natCast_zero, Int.natCast_add, reduceCtorEq, Lin.cells, Lin.zero, eq_false c1, eq_false c2, k1]
          first | exact List.prefix_append _ _ | exact ⟨rfl, List.prefix_append _ _⟩
  have e : rawVal x V S = if (a.flat && b.flat) = true then (⟨[], [], (calcOf x.kind a.num b.num).1⟩, true, (calcOf x.kind a.num b.num).2) else (Lin.zero, false, 0) := by
    rw [rawVal, if_neg k1, if_neg k2, if_neg k3, if_neg k5, if_neg k6, if_neg k4, hA, hB]
  rw [e]
  have g2 : 2 < x.kind := by omega
  have g4 : 4 < x.kind := by omega
  simp only [go_sem, ↓reduceIte, Nat.reduceEqDiff, Nat.reduceAdd, Nat.reduceMul, Nat.reduceLT, Nat.reduceLeDiff, Int.reduceLT, Int.reduceLE, Int.reduceNeg, Int.reduceAdd, Int.reduceSub, Int.reduceMul, Int.reduceToNat, Int.reduceEq, Int.reduceNe, Int.cast_ofNat_Int, Int.natCast_one, Int.natCast_zero, Int.natCast_add, reduceCtorEq, Nd.cells, k1, k2, k3, k4, k5, k6, g2, g4, hlq, hli, hrq, hri, look_app_lt hqn, hq, hta, htb, hvl, hlb, hrb, Lin.cells]
  refine (f82_ok X a _).mono ?_
  rintro _ ρ ⟨rfl, τ, rfl⟩
  cases hfa : a.flat with
  | false =>
    simp only [go_sem, ↓reduceIte, Nat.reduceEqDiff, Nat.reduceAdd, Nat.reduceMul, Nat.reduceLT, Nat.reduceLeDiff, Int.reduceLT, Int.reduceLE, Int.reduceNeg, Int.reduceAdd, Int.reduceSub, Int.reduceMul, Int.reduceToNat, Int.reduceEq, Int.reduceNe, Int.cast_ofNat_Int, Int.natCast_one, Int.natCast_zero, Int.natCast_add, reduceCtorEq, Lin.cells, Lin.zero, k1, k2, k3, k4, k5, k6]
    first | exact List.prefix_append _ _ | exact ⟨rfl, List.prefix_append _ _⟩
  | true =>
    simp only [go_sem, ↓reduceIte, Nat.reduceEqDiff, Nat.reduceAdd, Nat.reduceMul, Nat.reduceLT, Nat.reduceLeDiff, Int.reduceLT, Int.reduceLE, Int.reduceNeg, Int.reduceAdd, Int.reduceSub, Int.reduceMul, Int.reduceToNat, Int.reduceEq, Int.reduceNe, Int.cast_ofNat_Int, Int.natCast_one, Int.natCast_zero, Int.natCast_add, reduceCtorEq, Lin.cells, Lin.zero, k1, k2, k3, k4, k5, k6]
    refine (f82_ok X b _).mono ?_
    rintro _ ρ ⟨rfl, τ2, rfl⟩
    cases hfb : b.flat with
    | false =>
      simp only [go_sem, ↓reduceIte, Nat.reduceEqDiff, Nat.reduceAdd, Nat.reduceMul, Nat.reduceLT, Nat.reduceLeDiff, Int.reduceLT, Int.reduceLE, Int.reduceNeg, Int.reduceAdd, Int.reduceSub, Int.reduceMul, Int.reduceToNat, Int.reduceEq, Int.reduceNe, Int.cast_ofNat_Int, Int.natCast_one, Int.natCast_zero, Int.natCast_add, reduceCtorEq, Lin.cells, Lin.zero, k1, k2, k3, k4, k5, k6]
      first | exact List.prefix_append _ _ | exact ⟨rfl, List.prefix_append _ _⟩
    | true =>
      simp only [go_sem, ↓reduceIte, Nat.reduceEqDiff, Nat.reduceAdd, Nat.reduceMul, Nat.reduceLT, Nat.reduceLeDiff, Int.reduceLT, Int.reduceLE, Int.reduceNeg, Int.reduceAdd, Int.reduceSub, Int.reduceMul, Int.reduceToNat, Int.reduceEq, Int.reduceNe, Int.cast_ofNat_Int, Int.natCast_one, Int.natCast_zero, Int.natCast_add, reduceCtorEq, Lin.cells, Lin.zero, k1, k2, k3, k4, k5, k6]
      refine (f83_ok X x.kind a.num b.num _).mono ?_
      rintro _ _ ⟨rfl, rfl⟩
      generalize (calcOf x.kind a.num b.num).1 = m
      by_cases cz : (calcOf x.kind a.num b.num).2 = 0
      · rw [cz]
        by_cases c1 : 1099511627776 < m
        · simp only [go_sem, ↓reduceIte, Nat.reduceEqDiff, Nat.reduceAdd, Nat.reduceMul, Nat.reduceLT, Nat.reduceLeDiff, Int.reduceLT, Int.reduceLE, Int.reduceNeg, Int.reduceAdd, Int.reduceSub, Int.reduceMul, Int.reduceToNat, Int.reduceEq, Int.reduceNe, Int.cast_ofNat_Int, Int.natCast_one, Int.natCast_zero, Int.natCast_add, reduceCtorEq, Lin.cells, Lin.zero, eq_true c1, k1]
          first | exact List.prefix_append _ _ | exact ⟨rfl, List.prefix_append _ _⟩
        · by_cases c2 : m < -1099511627776
          · simp only [go_sem, ↓reduceIte, Nat.reduceEqDiff, Nat.reduceAdd, Nat.reduceMul, Nat.reduceLT, Nat.reduceLeDiff, Int.reduceLT, Int.reduceLE, Int.reduceNeg, Int.reduceAdd, Int.reduceSub, Int.reduceMul, Int.reduceToNat, Int.reduceEq, Int.reduceNe, Int.cast_ofNat_Int, Int.natCast_one, Int.natCast_zero, Int.natCast_add, reduceCtorEq, Lin.cells, Lin.zero, eq_false c1, eq_true c2, k1]
            first | exact List.prefix_append _ _ | exact ⟨rfl, List.prefix_append _ _⟩
          · simp only [go_sem, ↓reduceIte, Nat.reduceEqDiff, Nat.reduceAdd, Nat.reduceMul, Nat.reduceLT, Nat.reduceLeDiff, Int.reduceLT, Int.reduceLE, Int.reduceNeg, Int.reduceAdd, Int.reduceSub, Int.reduceMul, Int.reduceToNat, Int.reduceEq, Int.reduceNe, Int.cast_ofNat_Int, Int.natCast_one, Int.natCast_zero, Int.natCast_add, reduceCtorEq, Lin.cells, Lin.zero, eq_false c1, eq_false c2, k1]
            first | exact List.prefix_append _ _ | exact ⟨rfl, List.prefix_append _ _⟩
      · simp only [go_sem, ↓reduceIte, Nat.reduceEqDiff, Nat.reduceAdd, Nat.reduceMul, Nat.reduceLT, Nat.reduceLeDiff, Int.reduceLT, Int.reduceLE, Int.reduceNeg, Int.reduceAdd, Int.reduceSub, Int.reduceMul, Int.reduceToNat, Int.reduceEq, Int.reduceNe, Int.cast_ofNat_Int, Int.natCast_one, Int.natCast_zero, Int.natCast_add, reduceCtorEq, Lin.cells, Lin.zero, eq_false cz]
        first | exact List.prefix_append _ _ | exact ⟨rfl, List.prefix_append _ _⟩
end Go.Proofs.YtkgdkommahgakaaDoor.Abs

namespace Go.Proofs.YtkgdkommahgakaaDoor.Abs
open Go Go.RowKit Gram
set_option linter.unusedVariables false
set_option linter.unusedSimpArgs false
set_option maxRecDepth 100000

def evalL (S : List Sy) : List Nd → List Lin → (Int × Int) ⊕ List Lin
  | [], V => .inr V
  | x :: l, V => if (nodeVal x V S).2 ≠ 0 then .inl ((nodeVal x V S).2, V.length) else evalL S l (V ++ [(nodeVal x V S).1])
def valFault (E : List Nd) (S : List Sy) : Int × Int := if (exprFault E).1 = 0 then symsFault S else exprFault E
def valueOf (E : List Nd) (S : List Sy) : Lin × (Int × Int) :=
  if (valFault E S).1 ≠ 0 then (Lin.zero, valFault E S) else match evalL S E [] with
    | .inl f => (Lin.zero, f)
    | .inr V => ((V.getLast?).getD Lin.zero, (0, 0))
theorem firstE_zero : ∀ (l : List Nd) (i : Nat), (firstE i l).1 = 0 → firstE i l = (0, 0) ∧ ∀ (j : Nat) (x : Nd), l[j]? = some x → nodeErr x (i + j) = 0
  | [], i, _ => ⟨rfl, fun j x h => by simp at h⟩
  | y :: l, i, h => by
    unfold firstE at h ⊢
    split at h
    · rename_i hne; exact absurd h hne
    · rename_i hne
      rw [if_neg hne]
      obtain ⟨h1, h2⟩ := firstE_zero l (i + 1) h
      refine ⟨h1, fun j x hx => ?_⟩
      cases j with
      | zero =>
        simp only [List.getElem?_cons_zero, Option.some.injEq] at hx
        subst hx
        exact Decidable.not_not.1 hne
      | succ j =>
        have := h2 j x (by simpa using hx)
        rw [show i + 1 + j = i + (j + 1) by omega] at this
        exact this
theorem exprFault_zero {E : List Nd} (h : (exprFault E).1 = 0) : exprFault E = (0, 0) ∧ 1 ≤ E.length ∧ E.length ≤ 60 ∧ ∀ (j : Nat) (x : Nd), E[j]? = some x → nodeErr x j = 0 := by
  unfold exprFault at h ⊢
  split at h
  · simp at h
  · rename_i hl
    rw [if_neg hl]
    obtain ⟨h1, h2⟩ := firstE_zero E 0 h
    exact ⟨h1, by omega, by omega, fun j x hx => by have := h2 j x hx; simpa using this⟩
theorem firstS_zero : ∀ (l : List Sy) (i : Nat), (firstS i l).1 = 0 → firstS i l = (0, 0) ∧ ∀ x ∈ l, symErr x = 0
  | [], i, _ => ⟨rfl, by simp⟩
  | y :: l, i, h => by
    unfold firstS at h ⊢
    split at h
    · rename_i hne; exact absurd h hne
    · rename_i hne
      rw [if_neg hne]
      obtain ⟨h1, h2⟩ := firstS_zero l (i + 1) h
      refine ⟨h1, fun x hx => ?_⟩
      rcases List.mem_cons.1 hx with rfl | hx
      · exact Decidable.not_not.1 hne
      · exact h2 x hx
theorem symsFault_zero {S : List Sy} (h : (symsFault S).1 = 0) : symsFault S = (0, 0) ∧ S.length ≤ 8000 ∧ ∀ x ∈ S, symErr x = 0 := by
  unfold symsFault at h ⊢
  split at h
  · simp at h
  · rename_i hl
    rw [if_neg hl]
    obtain ⟨h1, h2⟩ := firstS_zero S 0 h
    exact ⟨h1, by omega, h2⟩
theorem nodeErr_zero {x : Nd} {i : Nat} (h : nodeErr x i = 0) : (1 ≤ x.kind ∧ x.kind ≤ 14) ∧ (x.kind = 1 → 0 ≤ x.value ∧ x.value < 4294967296) ∧ (x.kind = 2 → nameOk x.name = true) ∧ (2 < x.kind → 0 ≤ x.left ∧ x.left < i) ∧ (4 < x.kind → 0 ≤ x.right ∧ x.right < i) := by
  unfold nodeErr at h
  repeat' split at h
  all_goals first | (simp at h; done) | skip
  rename_i h1 h2 h3 h4
  refine ⟨by omega, fun hk => by omega, fun hk => ?_, fun hk => by omega, fun hk => by omega⟩
  cases hn : nameOk x.name with
  | true => rfl
  | false => exact absurd ⟨hk, hn⟩ h3
theorem nameOk_len {l : List UInt8} (h : nameOk l = true) : l.length ≤ 16 := by
  unfold nameOk at h
  simp only [Bool.and_eq_true, decide_eq_true_eq] at h
  exact h.2.1
theorem symErr_zero {x : Sy} (h : symErr x = 0) : nameOk x.name = true ∧ x.lin.small ∧ (x.lin.sym = x.lin.minus → x.lin.sym = []) := by
  unfold symErr at h
  split at h
  · simp at h
  · rename_i h1
    split at h
    · simp at h
    · rename_i h2
      simp only [not_or, Bool.not_eq_false, Bool.or_eq_true, decide_eq_true_eq] at h1
      obtain ⟨a1, a2, a3⟩ := h1
      refine ⟨a1, ⟨?_, ?_, by omega, by omega⟩, fun he => ?_⟩
      · rcases a2 with a2 | a2
        · rw [a2]; simp
        · have := nameOk_len a2; omega
      · rcases a3 with a3 | a3
        · rw [a3]; simp
        · have := nameOk_len a3; omega
      · by_cases hs : x.lin.sym = []
        · exact hs
        · exact absurd (.inr (.inr ⟨he, hs⟩)) h2
theorem sumL_len {a b r : Lin} (ha : a.sym.length ≤ 1000 ∧ a.minus.length ≤ 1000) (hb : b.sym.length ≤ 1000 ∧ b.minus.length ≤ 1000) (h : sumL a b = some r) : r.sym.length ≤ 1000 ∧ r.minus.length ≤ 1000 := by
  unfold sumL at h
  simp only at h
  have h1 := cancel_len (s := a.sym) (m0 := a.minus) (m1 := b.minus) (k := 1000) ⟨ha.1, ha.2, hb.2⟩
  generalize cancel a.sym a.minus b.minus = c at *
  have h2 := cancel_len (s := b.sym) (m0 := c.2.1) (m1 := c.2.2) (k := 1000) ⟨hb.1, h1.2.1, h1.2.2⟩
  generalize cancel b.sym c.2.1 c.2.2 = d at *
  split at h
  · simp at h
  · rename_i hn
    obtain rfl := Option.some.inj h
    simp only [List.length_append]
    have e1 : c.1 = [] ∨ d.1 = [] := by
      by_cases q : c.1 = []
      · exact .inl q
      · by_cases q2 : d.1 = []
        · exact .inr q2
        · exact absurd (.inl ⟨q, q2⟩) hn
    have e2 : d.2.1 = [] ∨ d.2.2 = [] := by
      by_cases q : d.2.1 = []
      · exact .inl q
      · by_cases q2 : d.2.2 = []
        · exact .inr q2
        · exact absurd (.inr ⟨q, q2⟩) hn
    constructor
    · rcases e1 with e | e <;> rw [e] <;> simp <;> omega
    · rcases e2 with e | e <;> rw [e] <;> simp <;> omega
theorem addL_len {a b : Lin} {s : Int} (ha : a.small) (hb : b.small) : ((addL a b s).getD Lin.zero).sym.length ≤ 1000 ∧ ((addL a b s).getD Lin.zero).minus.length ≤ 1000 := by
  cases h : addL a b s with
  | none => simp [Lin.zero]
  | some r =>
    simp only [Option.getD_some]
    unfold addL at h
    refine sumL_len ⟨ha.1, ha.2.1⟩ ?_ h
    unfold turn
    split
    · exact ⟨hb.2.1, hb.1⟩
    · exact ⟨hb.1, hb.2.1⟩
theorem code_near {ok : Bool} {c n : Int} (h : codeOf ok c n = 0) : -1099511627776 ≤ n ∧ n ≤ 1099511627776 ∧ ok = true ∧ c = 0 := by
  unfold codeOf at h
  split at h
  · simp at h
  · rename_i hok
    split at h
    · simp at h
    · rename_i h2
      exact ⟨by omega, by omega, by simpa using hok, h⟩
theorem arg_small {V : List Lin} (hV : ∀ v ∈ V, v.small) (i : Nat) : (V.getD i Lin.zero).small := by
  rw [List.getD_eq_getElem?_getD]
  cases h : V[i]? with
  | none => exact zero_small
  | some v => exact hV v (List.mem_of_getElem? h)
theorem argA_small {x : Nd} {V : List Lin} (hV : ∀ v ∈ V, v.small) : (argA x V).small := by
  unfold argA
  split
  · exact arg_small hV _
  · exact zero_small
theorem argB_small {x : Nd} {V : List Lin} (hV : ∀ v ∈ V, v.small) : (argB x V).small := by
  unfold argB
  split
  · exact arg_small hV _
  · exact zero_small
theorem nodeVal_small {x : Nd} {V : List Lin} {S : List Sy} {i : Nat} (hx : nodeErr x i = 0) (hS : ∀ y ∈ S, symErr y = 0) (hV : ∀ v ∈ V, v.small) (h : (nodeVal x V S).2 = 0) : (nodeVal x V S).1.small := by
  obtain ⟨c1, c2, _, _⟩ := code_near h
  obtain ⟨n1, n2, n3, n4, n5⟩ := nodeErr_zero hx
  unfold nodeVal at *
  simp only at *
  have hlen : (rawVal x V S).1.sym.length ≤ 1000 ∧ (rawVal x V S).1.minus.length ≤ 1000 := by
    unfold rawVal
    by_cases k1 : x.kind = 1
    · rw [if_pos k1]; simp
    rw [if_neg k1]
    by_cases k2 : x.kind = 2
    · rw [if_pos k2]
      simp only
      split
      · cases hy : S[(idx (S.map (·.name)) x.name).toNat]? with
        | none => simp [Lin.zero]
        | some y =>
          have := (symErr_zero (hS y (List.mem_of_getElem? hy))).2.1
          exact ⟨this.1, this.2.1⟩
      · have := nameOk_len (n3 k2)
        exact ⟨by simp; omega, by simp⟩
    rw [if_neg k2]
    repeat' split
    all_goals first | exact addL_len zero_small (argA_small hV) | exact addL_len (argA_small hV) (argB_small hV) | (simp [Lin.zero]; done)
  exact ⟨hlen.1, hlen.2, c1, c2⟩

def VB (b : Nat) (σ : Heap) (V : List Lin) (v : Value) : Prop := (V = [] ∧ v = .slice none 0 0) ∨ ∃ q c, v = .slice (some ⟨q, 0, none⟩) V.length c ∧ b ≤ q ∧ 0 < V.length ∧ look σ q = some ⟨V.flatMap Lin.cells, true, 3⟩
theorem VB.vv {b : Nat} {σ : Heap} {V : List Lin} {v : Value} (h : VB b σ V v) : VV σ V v := by
  rcases h with h | ⟨q, c, h1, h2, h3, h4⟩
  · exact .inl h
  · exact .inr ⟨q, c, h1, h3, h4⟩
theorem VB.mono {b : Nat} {σ σ' : Heap} {V : List Lin} {v : Value} (h : VB b σ V v) (hp : σ <+: σ') : VB b σ' V v := by
  rcases h with h | ⟨q, c, h1, h2, h3, h4⟩
  · exact .inl h
  · exact .inr ⟨q, c, h1, h2, h3, look_prefix hp h4⟩
theorem app_lin {σ0 σ : Heap} {V : List Lin} {nv : Value} (hp : σ0 <+: σ) (h : VB σ0.length σ V nv) (x : Lin) (hs : V.length ≤ 1000) :
    ∃ nv' σ', aappend Tryd.prog (σ ++ [some ⟨x.cells, true, 3⟩]) #[84, 84] nv (.slice (some ⟨σ.length, 0, none⟩) 1 1) = some (nv', σ') ∧ σ0 <+: σ' ∧ VB σ0.length σ' (V ++ [x]) nv' := by
  have hsrc : asrc (σ ++ [some ⟨x.cells, true, 3⟩]) 3 (.slice (some ⟨σ.length, 0, none⟩) 1 1) = some (1, x.cells) := by
    rw [src_ptr (b := ⟨x.cells, true, 3⟩) (by rw [look_app_new, look_zero]) (by simp [Lin.cells])]
    rfl
  have hl := hp.length_le
  rcases h with ⟨rfl, rfl⟩ | ⟨q, c, rfl, h2, h3, h4⟩
  · rw [an84_84, hsrc, Option.bind_some, if_pos (by simp)]
    refine ⟨_, _, rfl, (hp.trans (List.prefix_append _ _)).trans (List.prefix_append _ _), .inr ⟨_, _, rfl, by simp; omega, by simp, ?_⟩⟩
    rw [look_app_new, look_zero]
    simp
  · have hq := look_lt h4
    have hnl := Lin.len V
    rw [ap84_84, hsrc, Option.bind_some, if_pos (by simp; omega), if_neg (by omega), look_app_lt hq, h4, Option.bind_some, if_pos (by simp [hnl])]
    refine ⟨_, _, rfl, (prefix_set (hp.trans (List.prefix_append _ _)) h2).trans (List.prefix_append _ _), .inr ⟨(σ ++ [some (⟨x.cells, true, 3⟩ : Blk)]).length, V.length + 1 + 1, by simp, by simp; omega, by simp, ?_⟩⟩
    have hh := look_app_new (σ := (σ ++ [some (⟨x.cells, true, 3⟩ : Blk)]).set q none) (l := [some ⟨V.flatMap Lin.cells ++ x.cells, true, 3⟩])
    rw [List.length_set] at hh
    rw [List.drop_zero, hh, look_zero, List.flatMap_append]
    simp
theorem vb_len {b : Nat} {σ : Heap} {V : List Lin} {nv : Value} (h : VB b σ V nv) : alen Tryd.prog #[84] [nv] = some (.int .i64 V.length) := by
  rcases h with ⟨rfl, rfl⟩ | ⟨q, c, rfl, -⟩
  · exact ln84
  · exact ln84

theorem lsa {σ l : Heap} {n m : Nat} {b : Option Blk} (hn : n < σ.length) (hm : m < σ.length) : look (σ.set n b ++ l) m = if m = n then b else look σ m := by
  rw [look_app_lt (by rw [List.length_set]; exact hm), look_set hn]
theorem ssa {σ l : Heap} {n m : Nat} {b b' : Option Blk} (hm : m < σ.length) : (σ.set n b ++ l).set m b' = (σ.set n b).set m b' ++ l := set_app_lt (by rw [List.length_set]; exact hm)
theorem lss {σ : Heap} {n m k : Nat} {b b' : Option Blk} (hn : n < σ.length) (hm : m < σ.length) : look ((σ.set n b).set m b') k = if k = m then b' else if k = n then b else look σ k := by
  rw [look_set (by rw [List.length_set]; exact hm), look_set hn]
theorem lssa {σ l : Heap} {n m k : Nat} {b b' : Option Blk} (hn : n < σ.length) (hm : m < σ.length) (hk : k < σ.length) : look ((σ.set n b).set m b' ++ l) k = if k = m then b' else if k = n then b else look σ k := by
  rw [look_app_lt (by rw [List.length_set, List.length_set]; exact hk), lss hn hm]
set_option maxHeartbeats 4000000 in
theorem f24_ok (X : Ext) (E : List Nd) (S : List Sy) (n c : Nat) (sv : Value) (ow : Bool) (sz : Nat) (σ : Heap) (hl : look σ n = some ⟨E.flatMap Nd.cells, ow, sz⟩) (hm : SB σ S sv)
    (ht : ∀ x ∈ E, x.name.length ≤ 140737488351232) (hts : ∀ x ∈ S, x.few) (hz : E.length ≤ 140737488351232) (hzs : S.length ≤ 140737488351232) (la : Nat) (hla : la = E.length) :
    CW Tryd.prog X 24 [.slice (some ⟨n, 0, none⟩) la c, sv] σ fun v σ' => v = .tuple #[.agg (valueOf E S).1.cells.toArray, faultV (valueOf E S).2] ∧ σ <+: σ' := by
  subst hla
  refine cw_in Tryd.func24 rfl Tryd.ntmps24 (rs := [.cell 4 40, .cell 5 26]) rfl (by kernel_rfl) (by exact Nat.le_of_ble_eq_true rfl) ?_
  have hn := look_lt hl
  have hel := Nd.len E
  unfold valueOf
  simp only [go_sem, ↓reduceIte, Nat.reduceEqDiff, Nat.reduceAdd, Nat.reduceMul, Nat.reduceLT, Nat.reduceLeDiff, Int.reduceLT, Int.reduceLE, Int.reduceNeg, Int.reduceAdd, Int.reduceSub, Int.reduceMul, Int.reduceToNat, Int.reduceEq, Int.reduceNe, Int.cast_ofNat_Int, Int.natCast_one, Int.natCast_zero, Int.natCast_add, reduceCtorEq]
  refine (f26_ok X E n c ow sz _ ((look_app_lt hn).trans hl) ht E.length rfl hz).mono ?_
  rintro _ _ ⟨rfl, τ, rfl⟩
  by_cases he : (exprFault E).1 = 0
  case neg =>
    have hvf : valFault E S = exprFault E := by rw [valFault, if_neg he]
    rw [hvf, if_pos he]
    simp only [go_sem, ↓reduceIte, Nat.reduceEqDiff, Nat.reduceAdd, Nat.reduceMul, Nat.reduceLT, Nat.reduceLeDiff, Int.reduceLT, Int.reduceLE, Int.reduceNeg, Int.reduceAdd, Int.reduceSub, Int.reduceMul, Int.reduceToNat, Int.reduceEq, Int.reduceNe, Int.cast_ofNat_Int, Int.natCast_one, Int.natCast_zero, Int.natCast_add, reduceCtorEq, faultV, he]
    refine And.intro (quiet_late (by kernel_rfl) [6] [4, 5] (by kernel_rfl) (by kernel_rfl) (by simp [putT, ptrOf])) ?_
    exact ⟨rfl, List.prefix_append _ _⟩
  obtain ⟨he0, he1, he2, he3⟩ := exprFault_zero he
  have hvf : valFault E S = symsFault S := by rw [valFault, if_pos he]
  rw [hvf]
  simp only [go_sem, ↓reduceIte, Nat.reduceEqDiff, Nat.reduceAdd, Nat.reduceMul, Nat.reduceLT, Nat.reduceLeDiff, Int.reduceLT, Int.reduceLE, Int.reduceNeg, Int.reduceAdd, Int.reduceSub, Int.reduceMul, Int.reduceToNat, Int.reduceEq, Int.reduceNe, Int.cast_ofNat_Int, Int.natCast_one, Int.natCast_zero, Int.natCast_add, reduceCtorEq, faultV, he0]
  refine (f52_all X S sv _ (hm.mono (List.prefix_append _ _)) hts hzs).mono ?_
  rintro _ _ ⟨rfl, τ2, rfl⟩
  by_cases hs : (symsFault S).1 = 0
  case neg =>
    rw [if_pos hs]
    simp only [go_sem, ↓reduceIte, Nat.reduceEqDiff, Nat.reduceAdd, Nat.reduceMul, Nat.reduceLT, Nat.reduceLeDiff, Int.reduceLT, Int.reduceLE, Int.reduceNeg, Int.reduceAdd, Int.reduceSub, Int.reduceMul, Int.reduceToNat, Int.reduceEq, Int.reduceNe, Int.cast_ofNat_Int, Int.natCast_one, Int.natCast_zero, Int.natCast_add, reduceCtorEq, faultV, hs]
    refine And.intro (quiet_late (by kernel_rfl) [6] [4, 5] (by kernel_rfl) (by kernel_rfl) (by simp [putT, ptrOf])) ?_
    exact ⟨rfl, List.prefix_append _ _⟩
  obtain ⟨hs0, hs1, hs2⟩ := symsFault_zero hs
  rw [if_neg (by simp [hs])]
  simp only [go_sem, ↓reduceIte, Nat.reduceEqDiff, Nat.reduceAdd, Nat.reduceMul, Nat.reduceLT, Nat.reduceLeDiff, Int.reduceLT, Int.reduceLE, Int.reduceNeg, Int.reduceAdd, Int.reduceSub, Int.reduceMul, Int.reduceToNat, Int.reduceEq, Int.reduceNe, Int.cast_ofNat_Int, Int.natCast_one, Int.natCast_zero, Int.natCast_add, reduceCtorEq, faultV, hs0]
  have hl1 := (look_app_lt (l := some (⟨[.string { data := #[] }, .string { data := #[] }, .int .i64 0], true, 0⟩ : Blk) :: some ⟨[.int .i64 0, .int .i64 0], true, 0⟩ :: (τ ++ some ⟨[.int .i64 0, .int .i64 0], true, 0⟩ :: τ2)) hn).trans hl
  have hm1 : SB (σ ++ some (⟨[.string { data := #[] }, .string { data := #[] }, .int .i64 0], true, 0⟩ : Blk) :: some ⟨[.int .i64 0, .int .i64 0], true, 0⟩ :: (τ ++ some ⟨[.int .i64 0, .int .i64 0], true, 0⟩ :: τ2)) S sv := hm.mono (List.prefix_append _ _)
  have ha4 : look (σ ++ some (⟨[.string { data := #[] }, .string { data := #[] }, .int .i64 0], true, 0⟩ : Blk) :: some ⟨[.int .i64 0, .int .i64 0], true, 0⟩ :: (τ ++ some ⟨[.int .i64 0, .int .i64 0], true, 0⟩ :: τ2)) σ.length = some ⟨[.string { data := #[] }, .string { data := #[] }, .int .i64 0], true, 0⟩ := by rw [look_app_new, look_zero]
  have ha5 : look (σ ++ some (⟨[.string { data := #[] }, .string { data := #[] }, .int .i64 0], true, 0⟩ : Blk) :: some ⟨[.int .i64 0, .int .i64 0], true, 0⟩ :: (τ ++ some ⟨[.int .i64 0, .int .i64 0], true, 0⟩ :: τ2)) (σ.length + 1) = some ⟨[.int .i64 0, .int .i64 0], true, 0⟩ := by rw [look_app_add]; rfl
  have ha6 : look (σ ++ some (⟨[.string { data := #[] }, .string { data := #[] }, .int .i64 0], true, 0⟩ : Blk) :: some ⟨[.int .i64 0, .int .i64 0], true, 0⟩ :: (τ ++ some ⟨[.int .i64 0, .int .i64 0], true, 0⟩ :: τ2)) (σ.length + (τ.length + 1 + 1)) = some ⟨[.int .i64 0, .int .i64 0], true, 0⟩ := by rw [look_app_add, look_succ, look_succ, look_app_new, look_zero]
  have hpre : σ <+: σ ++ some (⟨[.string { data := #[] }, .string { data := #[] }, .int .i64 0], true, 0⟩ : Blk) :: some ⟨[.int .i64 0, .int .i64 0], true, 0⟩ :: (τ ++ some ⟨[.int .i64 0, .int .i64 0], true, 0⟩ :: τ2) := List.prefix_append _ _
  have hne6 : σ.length + (τ.length + 1 + 1) ≠ σ.length ∧ σ.length + (τ.length + 1 + 1) ≠ σ.length + 1 := by omega
  generalize σ.length + (τ.length + 1 + 1) = p6 at *
  generalize σ ++ some (⟨[.string { data := #[] }, .string { data := #[] }, .int .i64 0], true, 0⟩ : Blk) :: some ⟨[.int .i64 0, .int .i64 0], true, 0⟩ :: (τ ++ some ⟨[.int .i64 0, .int .i64 0], true, 0⟩ :: τ2) = σ1 at *
  clear hl hm hn he hs
  refine LW_run (fun k T ρ => ∃ (i : Nat) (V : List Lin) (nv : Value), i + k = E.length ∧ σ1 <+: ρ ∧ T 1 = sv ∧ T 4 = .pointer (some ⟨σ.length, 0, none⟩) ∧ T 5 = .pointer (some ⟨σ.length + 1, 0, none⟩) ∧ T 6 = .pointer (some ⟨p6, 0, none⟩) ∧ T 7 = nv
      ∧ T 24 = .slice (some ⟨n, 0, none⟩) E.length c ∧ T 25 = .int .i64 E.length ∧ T 26 = .int .i64 i ∧ VB σ1.length ρ V nv ∧ V.length = i ∧ (∀ v ∈ V, v.small) ∧ evalL S E [] = evalL S (E.drop i) V) E.length
    ⟨0, [], _, by simp, List.prefix_rfl, rfl, rfl, rfl, rfl, rfl, rfl, rfl, rfl, .inl ⟨rfl, rfl⟩, rfl, by simp, rfl⟩ ?_
  rintro k T ρ ⟨i, V, nv, hk, hp, t1, t4, t5, t6, t7, t24, t25, t26, hV, hVl, hVs, hev⟩
  have hl2 := look_prefix hp hl1
  have hm2 := hm1.mono hp
  have h4 := look_prefix hp ha4
  have h5 := look_prefix hp ha5
  have h6 := look_prefix hp ha6
  have hn2 := look_lt hl2
  have h4l := look_lt h4
  have h5l := look_lt h5
  have h6l := look_lt h6
  have a4l := look_lt ha4
  have a5l := look_lt ha5
  simp only [go_sem, ↓reduceIte, Nat.reduceEqDiff, Nat.reduceAdd, Nat.reduceMul, Nat.reduceLT, Nat.reduceLeDiff, Int.reduceLT, Int.reduceLE, Int.reduceNeg, Int.reduceAdd, Int.reduceSub, Int.reduceMul, Int.reduceToNat, Int.reduceEq, Int.reduceNe, Int.cast_ofNat_Int, Int.natCast_one, Int.natCast_zero, Int.natCast_add, reduceCtorEq, t1, t4, t5, t6, t7, t24, t25, t26]
  refine fork_dec (fun _ => ?_) (fun _ => ?_)
  · rename_i hi
    obtain ⟨x, hx⟩ : ∃ x, E[i]? = some x := ⟨_, List.getElem?_eq_getElem (by omega)⟩
    have hxe := he3 i x hx
    obtain ⟨n1, n2, n3, n4, n5⟩ := nodeErr_zero hxe
    have hw : IntKind.i64.wrap ((i : Int) + 1) = (i : Int) + 1 := wrap64 (by omega)
    rw [drop_at hx, evalL] at hev
    simp only [go_sem, ↓reduceIte, Nat.reduceEqDiff, Nat.reduceAdd, Nat.reduceMul, Nat.reduceLT, Nat.reduceLeDiff, Int.reduceLT, Int.reduceLE, Int.reduceNeg, Int.reduceAdd, Int.reduceSub, Int.reduceMul, Int.reduceToNat, Int.reduceEq, Int.reduceNe, Int.cast_ofNat_Int, Int.natCast_one, Int.natCast_zero, Int.natCast_add, reduceCtorEq, t1, t4, t5, t6, t7, t24, t25, t26, hi, hl2, Nd.take hx, hel, show i * 5 + 5 ≤ E.length * 5 by omega, Nd.cells]
    refine (f53_ok X x V S nv sv _ ((hV.mono (List.prefix_append _ _)).vv) (hm2.mono (List.prefix_append _ _)) (by omega) n1 (fun h => by have := n4 h; omega) (fun h => by have := n5 h; omega) hVs).mono ?_
    rintro _ _ ⟨rfl, τ3, rfl⟩
    by_cases hc : (nodeVal x V S).2 = 0
    · rw [if_neg (by simp [hc])] at hev
      have hns := nodeVal_small hxe hs2 hVs hc
      obtain ⟨nv', ρ', hap, hp', hV'⟩ := app_lin (σ := ρ ++ (some ⟨x.cells, true, 0⟩ :: (τ3 ++ [some ⟨(nodeVal x V S).1.cells, true, 0⟩]))) (hp.trans (List.prefix_append _ _)) (hV.mono (List.prefix_append _ _)) (nodeVal x V S).1 (by omega)
      simp only [Lin.cells, Nd.cells, List.append_assoc, List.cons_append, List.nil_append, List.length_append, List.length_cons, List.length_nil] at hap
      simp only [go_sem, ↓reduceIte, Nat.reduceEqDiff, Nat.reduceAdd, Nat.reduceMul, Nat.reduceLT, Nat.reduceLeDiff, Int.reduceLT, Int.reduceLE, Int.reduceNeg, Int.reduceAdd, Int.reduceSub, Int.reduceMul, Int.reduceToNat, Int.reduceEq, Int.reduceNe, Int.cast_ofNat_Int, Int.natCast_one, Int.natCast_zero, Int.natCast_add, reduceCtorEq, t1, t4, t5, t6, t7, t24, t25, t26, hc, hw, Lin.cells, hap]
      refine ⟨k - 1, by omega, i + 1, V ++ [(nodeVal x V S).1], nv', by omega, hp', ?_⟩
      (repeat' (first | exact rfl | apply And.intro))
      · exact hV'
      · simp [hVl]
      · intro v hv
        rcases List.mem_append.1 hv with hv | hv
        · exact hVs v hv
        · simp at hv; subst hv; exact hns
      · exact hev
    · rw [if_pos hc] at hev
      rw [hev]
      simp only [go_sem, ↓reduceIte, Nat.reduceEqDiff, Nat.reduceAdd, Nat.reduceMul, Nat.reduceLT, Nat.reduceLeDiff, Int.reduceLT, Int.reduceLE, Int.reduceNeg, Int.reduceAdd, Int.reduceSub, Int.reduceMul, Int.reduceToNat, Int.reduceEq, Int.reduceNe, Int.cast_ofNat_Int, Int.natCast_one, Int.natCast_zero, Int.natCast_add, reduceCtorEq, t1, t4, t5, t6, t7, t24, t25, t26, hc, Lin.cells, look_app_lt h4l, h4, set_app_lt h4l, lsa h4l h5l, lsa h4l h4l, ssa h5l, lssa h4l h5l h4l, lssa h4l h5l h5l, h5, show ¬ σ.length + 1 = σ.length by omega, show ¬ σ.length = σ.length + 1 by omega]
      refine ⟨?_, (prefix_set (prefix_set (hpre.trans hp) (Nat.le_refl _)) (by omega)).trans (List.prefix_append _ _)⟩
      rw [hVl]
      rfl
  · rename_i hi
    have hii : i = E.length := by omega
    subst hii
    rw [List.drop_eq_nil_of_le (Nat.le_refl _), evalL] at hev
    rw [hev]
    obtain ⟨w, hw⟩ : ∃ w, V[V.length - 1]? = some w := ⟨_, List.getElem?_eq_getElem (by omega)⟩
    have hlast : V.getLast? = some w := by rw [List.getLast?_eq_getElem?]; exact hw
    rcases hV with ⟨rfl, _⟩ | ⟨q, cq, rfl, hq1, hq2, hq3⟩
    · simp at hw
    have hvl := Lin.len V
    have hql := look_lt hq3
    have hw1 : IntKind.i64.wrap ((V.length : Int) - 1) = ((V.length - 1 : Nat) : Int) := by rw [wrap64 (by omega)]; omega
    have hq4 : q ≠ σ.length ∧ q ≠ σ.length + 1 ∧ q ≠ p6 := by have := look_lt ha6; omega
    have hV1 : ((V.length - 1 : Nat) : Int) < (V.length : Int) := by omega
    have hV3 : (V.length - 1) * 3 + 3 ≤ V.length * 3 := by omega
    have htk := Lin.take hw
    generalize V.length - 1 = v1 at *
    simp only [go_sem, ↓reduceIte, Nat.reduceEqDiff, Nat.reduceAdd, Nat.reduceMul, Nat.reduceLT, Nat.reduceLeDiff, Int.reduceLT, Int.reduceLE, Int.reduceNeg, Int.reduceAdd, Int.reduceSub, Int.reduceMul, Int.reduceToNat, Int.reduceEq, Int.reduceNe, Int.cast_ofNat_Int, Int.natCast_one, Int.natCast_zero, Int.natCast_add, reduceCtorEq, t1, t4, t5, t6, t7, t24, t25, t26, hi, hw1, hV1, hq3, htk, hvl, hV3, h6, Lin.cells, h4, hlast, Option.getD_some]
    refine And.intro (quiet_late (by kernel_rfl) [6] [4, 5] (by kernel_rfl) (by kernel_rfl) (by simp [putT, ptrOf, t4, t5, t6]; omega)) ?_
    simp only [go_sem, ↓reduceIte, Nat.reduceEqDiff, Nat.reduceAdd, Nat.reduceMul, Nat.reduceLT, Nat.reduceLeDiff, Int.reduceLT, Int.reduceLE, Int.reduceNeg, Int.reduceAdd, Int.reduceSub, Int.reduceMul, Int.reduceToNat, Int.reduceEq, Int.reduceNe, Int.cast_ofNat_Int, Int.natCast_one, Int.natCast_zero, Int.natCast_add, reduceCtorEq, look_set h4l, h5, show ¬ σ.length + 1 = σ.length by omega]
    refine And.intro (quiet_late (by kernel_rfl) [6] [4, 5] (by kernel_rfl) (by kernel_rfl) (by simp [putT, ptrOf, t4, t5, t6]; omega)) ?_
    have h4r : σ.length < (ρ.set σ.length (some ⟨[.string (str w.sym), .string (str w.minus), .int .i64 w.num], true, 0⟩)).length := by simpa using h4l
    have h5r : σ.length + 1 < (ρ.set σ.length (some ⟨[.string (str w.sym), .string (str w.minus), .int .i64 w.num], true, 0⟩)).length := by simpa using h5l
    simp only [go_sem, ↓reduceIte, Nat.reduceEqDiff, Nat.reduceAdd, Nat.reduceMul, Nat.reduceLT, Nat.reduceLeDiff, Int.reduceLT, Int.reduceLE, Int.reduceNeg, Int.reduceAdd, Int.reduceSub, Int.reduceMul, Int.reduceToNat, Int.reduceEq, Int.reduceNe, Int.cast_ofNat_Int, Int.natCast_one, Int.natCast_zero, Int.natCast_add, reduceCtorEq, t4, t5, look_set h5r, look_set h4l, show ¬ σ.length = σ.length + 1 by omega]
    (repeat' (first | exact rfl | apply And.intro))
    exact prefix_set (prefix_set (hpre.trans hp) (Nat.le_refl _)) (show σ.length ≤ σ.length + 1 by omega)
end Go.Proofs.YtkgdkommahgakaaDoor.Abs
