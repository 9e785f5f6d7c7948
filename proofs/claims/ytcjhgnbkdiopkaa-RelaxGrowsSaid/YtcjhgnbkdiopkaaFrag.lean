import Derived.Test.YtcjhgnbkdiopkaaTypes
namespace Go.Proofs.Ytcjhgnbkdiopkaa.Abs
open Go Go.RowKit
set_option linter.unusedVariables false
set_option linter.unusedSimpArgs false
set_option maxRecDepth 100000

structure Frag where
  kind : Int
  size : Int
  short : Int
  long : Int
  target : Int
  add : Int
def Frag.cells (x : Frag) : List Value := [.int .i64 x.kind, .int .i64 x.size, .int .i64 x.short, .int .i64 x.long, .int .i64 x.target, .int .i64 x.add]
def fragErr (x : Frag) (n : Int) : Int :=
  if x.kind < 1 ∨ 3 < x.kind then 4
  else if x.kind = 2 ∧ (x.size < 1 ∨ 256 < x.size ∨ Go.bits .and .i64 x.size (IntKind.i64.wrap (x.size - 1)) ≠ 0) then 3
  else if x.size < 0 ∨ 1500 < x.size then 3
  else if x.kind ≠ 3 then 0
  else if x.short < 1 ∨ x.long ≤ x.short ∨ 8 < x.long ∨ x.target < 0 ∨ n < x.target ∨ x.add < -1500 ∨ 1500 < x.add then 3 else 0

set_option maxHeartbeats 1000000 in
theorem f26_ok (X : Ext) (x : Frag) (n : Int) (σ : Heap) : CW Try.prog X 26 [.agg x.cells.toArray, .int .i64 n] σ fun v σ' => v = .int .i64 (fragErr x n) ∧ σ <+: σ' := by
  refine cw_in Try.func26 rfl Try.ntmps26 (rs := [.tmp 4]) rfl (by kernel_rfl) (by exact Nat.le_of_ble_eq_true rfl) ?_
  simp only [go_sem, ↓reduceIte, Nat.reduceEqDiff, Nat.reduceAdd, Nat.reduceMul, Nat.reduceLT, Nat.reduceLeDiff, Int.reduceLT, Int.reduceLE, Int.reduceNeg, Int.reduceAdd, Int.reduceSub, Int.reduceMul, Int.reduceToNat, Int.reduceEq, Int.reduceNe, Int.cast_ofNat_Int, Int.natCast_one, Int.natCast_zero, Int.natCast_add, reduceCtorEq, Frag.cells]
  repeat' (refine fork_dec (fun _ => ?_) (fun _ => ?_) <;> try simp only [go_sem, ↓reduceIte, Nat.reduceEqDiff, Nat.reduceAdd, Nat.reduceMul, Nat.reduceLT, Nat.reduceLeDiff, Int.reduceLT, Int.reduceLE, Int.reduceNeg, Int.reduceAdd, Int.reduceSub, Int.reduceMul, Int.reduceToNat, Int.reduceEq, Int.reduceNe, Int.cast_ofNat_Int, Int.natCast_one, Int.natCast_zero, Int.natCast_add, reduceCtorEq, *])
  all_goals refine ⟨congrArg _ ?_, List.prefix_append _ _⟩
  all_goals (unfold fragErr; (repeat' split) <;> omega)

theorem Frag.len (L : List Frag) : (L.flatMap Frag.cells).length = L.length * 6 := by
  induction L with
  | nil => rfl
  | cons x L ih => simp [ih, Frag.cells]; omega
theorem Frag.take (x : Frag) : ∀ (L : List Frag) (i : Nat), L[i]? = some x → ((L.flatMap Frag.cells).drop (i * 6)).take 6 = x.cells
  | [], i, h => by simp at h
  | y :: L, 0, h => by
    simp only [List.getElem?_cons_zero, Option.some.injEq] at h
    subst h
    simp [Frag.cells]
  | y :: L, i + 1, h => by
    simp only [List.getElem?_cons_succ] at h
    rw [List.flatMap_cons, show (i + 1) * 6 = y.cells.length + i * 6 by simp [Frag.cells]; omega, ← List.drop_drop, List.drop_left]
    exact Frag.take x L i h
def fval (L : List Frag) (N : Int) : Nat → List Frag → Int × Int
  | _, [] => (0, 0)
  | i, x :: l => if fragErr x N ≠ 0 then (fragErr x N, i) else fval L N (i + 1) l
def validate (L : List Frag) : Int × Int := if 400 < L.length then (2, -1) else fval L L.length 0 L
def faultV (f : Int × Int) : Value := .agg [.int .i64 f.1, .int .i64 f.2].toArray

set_option maxHeartbeats 1000000 in
theorem f20_ok (X : Ext) (L : List Frag) (n c : Nat) (ow : Bool) (sz : Nat) (σ : Heap) (hl : look σ n = some ⟨L.flatMap Frag.cells, ow, sz⟩) :
    CW Try.prog X 20 [.slice (some ⟨n, 0, none⟩) L.length c] σ fun v σ' => v = faultV (validate L) ∧ σ <+: σ' := by
  refine cw_in Try.func20 rfl Try.ntmps20 (rs := [.cell 2 27]) rfl (by kernel_rfl) (by exact Nat.le_of_ble_eq_true rfl) ?_
  simp only [go_sem, ↓reduceIte, Nat.reduceEqDiff, Nat.reduceAdd, Nat.reduceMul, Nat.reduceLT, Nat.reduceLeDiff, Int.reduceLT, Int.reduceLE, Int.reduceNeg, Int.reduceAdd, Int.reduceSub, Int.reduceMul, Int.reduceToNat, Int.reduceEq, Int.reduceNe, Int.cast_ofNat_Int, Int.natCast_one, Int.natCast_zero, Int.natCast_add, reduceCtorEq]
  refine fork_dec (fun _ => ?_) (fun _ => ?_)
  · rename_i h
    simp only [go_sem, ↓reduceIte, Nat.reduceEqDiff, Nat.reduceAdd, Nat.reduceMul, Nat.reduceLT, Nat.reduceLeDiff, Int.reduceLT, Int.reduceLE, Int.reduceNeg, Int.reduceAdd, Int.reduceSub, Int.reduceMul, Int.reduceToNat, Int.reduceEq, Int.reduceNe, Int.cast_ofNat_Int, Int.natCast_one, Int.natCast_zero, Int.natCast_add, reduceCtorEq, h]
    refine ⟨?_, List.prefix_append _ _⟩
    simp only [validate, faultV, if_pos (show 400 < L.length by omega)]
  · rename_i h
    simp only [go_sem, ↓reduceIte, Nat.reduceEqDiff, Nat.reduceAdd, Nat.reduceMul, Nat.reduceLT, Nat.reduceLeDiff, Int.reduceLT, Int.reduceLE, Int.reduceNeg, Int.reduceAdd, Int.reduceSub, Int.reduceMul, Int.reduceToNat, Int.reduceEq, Int.reduceNe, Int.cast_ofNat_Int, Int.natCast_one, Int.natCast_zero, Int.natCast_add, reduceCtorEq, h]
    refine LW_run (fun k T σ' => ∃ (i : Nat) (τ : Heap), i + k = L.length ∧ σ' = σ ++ some ⟨[.int .i64 0, .int .i64 0], true, 0⟩ :: τ ∧ T 0 = .slice (some ⟨n, 0, none⟩) L.length c ∧ T 2 = .pointer (some ⟨σ.length, 0, none⟩)
      ∧ T 10 = .slice (some ⟨n, 0, none⟩) L.length c ∧ T 11 = .int .i64 L.length ∧ T 12 = .int .i64 i ∧ fval L L.length 0 L = fval L L.length i (L.drop i)) L.length ⟨0, [], by simp, rfl, rfl, rfl, rfl, rfl, rfl, rfl⟩ ?_
    rintro k T _ ⟨i, τ, hk, rfl, h0, h2, h10, h11, h12, hv⟩
    have hn : n < σ.length := look_lt hl
    simp only [go_sem, ↓reduceIte, Nat.reduceEqDiff, Nat.reduceAdd, Nat.reduceMul, Nat.reduceLT, Nat.reduceLeDiff, Int.reduceLT, Int.reduceLE, Int.reduceNeg, Int.reduceAdd, Int.reduceSub, Int.reduceMul, Int.reduceToNat, Int.reduceEq, Int.reduceNe, Int.cast_ofNat_Int, Int.natCast_one, Int.natCast_zero, Int.natCast_add, reduceCtorEq, h0, h2, h10, h11, h12]
    refine fork_dec (fun _ => ?_) (fun _ => ?_)
    · rename_i hi
      obtain ⟨x, hx⟩ : ∃ x, L[i]? = some x := ⟨L[i]'(by omega), List.getElem?_eq_getElem _⟩
      simp only [go_sem, ↓reduceIte, Nat.reduceEqDiff, Nat.reduceAdd, Nat.reduceMul, Nat.reduceLT, Nat.reduceLeDiff, Int.reduceLT, Int.reduceLE, Int.reduceNeg, Int.reduceAdd, Int.reduceSub, Int.reduceMul, Int.reduceToNat, Int.reduceEq, Int.reduceNe, Int.cast_ofNat_Int, Int.natCast_one, Int.natCast_zero, Int.natCast_add, reduceCtorEq, h0, h2, h10, h11, h12, hi, look_app_lt hn, hl, Frag.take x L i hx, Frag.len, show i * 6 + 6 ≤ L.length * 6 by omega, Frag.cells]
      refine (f26_ok X x L.length _).mono ?_
      rintro _ _ ⟨rfl, τ2, rfl⟩
      have hd : L.drop i = x :: L.drop (i + 1) := by rw [List.drop_eq_getElem_cons (by omega)]; congr 1; exact (List.getElem?_eq_some_iff.1 hx).2
      simp only [go_sem, ↓reduceIte, Nat.reduceEqDiff, Nat.reduceAdd, Nat.reduceMul, Nat.reduceLT, Nat.reduceLeDiff, Int.reduceLT, Int.reduceLE, Int.reduceNeg, Int.reduceAdd, Int.reduceSub, Int.reduceMul, Int.reduceToNat, Int.reduceEq, Int.reduceNe, Int.cast_ofNat_Int, Int.natCast_one, Int.natCast_zero, Int.natCast_add, reduceCtorEq, h0, h2, h10, h11, h12, hi]
      refine fork_dec (fun _ => ?_) (fun _ => ?_)
      · rename_i he
        simp only [go_sem, ↓reduceIte, Nat.reduceEqDiff, Nat.reduceAdd, Nat.reduceMul, Nat.reduceLT, Nat.reduceLeDiff, Int.reduceLT, Int.reduceLE, Int.reduceNeg, Int.reduceAdd, Int.reduceSub, Int.reduceMul, Int.reduceToNat, Int.reduceEq, Int.reduceNe, Int.cast_ofNat_Int, Int.natCast_one, Int.natCast_zero, Int.natCast_add, reduceCtorEq, h0, h2, h10, h11, h12, he]
        refine ⟨?_, List.prefix_append _ _⟩
        rw [validate, if_neg (by omega), hv, hd, fval, if_pos he]
        rfl
      · rename_i he
        simp only [go_sem, ↓reduceIte, Nat.reduceEqDiff, Nat.reduceAdd, Nat.reduceMul, Nat.reduceLT, Nat.reduceLeDiff, Int.reduceLT, Int.reduceLE, Int.reduceNeg, Int.reduceAdd, Int.reduceSub, Int.reduceMul, Int.reduceToNat, Int.reduceEq, Int.reduceNe, Int.cast_ofNat_Int, Int.natCast_one, Int.natCast_zero, Int.natCast_add, reduceCtorEq, h0, h2, h10, h11, h12, he, wrap64 (show -9223372036854775808 ≤ (i : Int) + 1 ∧ (i : Int) + 1 ≤ 9223372036854775807 by omega)]
        exact ⟨k - 1, by omega, i + 1, _, by omega, rfl, rfl, by rw [hv, hd, fval, if_neg he]⟩
    · rename_i hi
      simp only [go_sem, ↓reduceIte, Nat.reduceEqDiff, Nat.reduceAdd, Nat.reduceMul, Nat.reduceLT, Nat.reduceLeDiff, Int.reduceLT, Int.reduceLE, Int.reduceNeg, Int.reduceAdd, Int.reduceSub, Int.reduceMul, Int.reduceToNat, Int.reduceEq, Int.reduceNe, Int.cast_ofNat_Int, Int.natCast_one, Int.natCast_zero, Int.natCast_add, reduceCtorEq, h0, h2, h10, h11, h12, hi]
      refine ⟨?_, List.prefix_append _ _⟩
      rw [validate, if_neg (by omega), hv, show L.drop i = [] from List.drop_eq_nil_of_le (by omega)]
      rfl
end Go.Proofs.Ytcjhgnbkdiopkaa.Abs
