import Derived.Test.YtkgdkommahgakaaDoorNum
import Derived.Test.YtkgdkommahgakaaDoorAbs18
import Derived.Lib.Slices
import Derived.Lib.Walk
import Derived.Lib.Bytealg
namespace Go.Proofs.YtkgdkommahgakaaDoor.Abs
open Go Go.RowKit
set_option linter.unusedVariables false
set_option linter.unusedSimpArgs false
set_option maxRecDepth 100000

set_option maxHeartbeats 1000000 in
theorem lib116 (s : ByteArray) (c : Int) (w : World) : Calls Tryd.prog 116 #[.string s, .int .u8 c] w fun e w' => e = .returned (.int .i64 (Lib.indexByte s.data.toList c.toNat.toUInt8)) ∧ w' = w := by
  go_enter Tryd.func116, Tryd.ntmps116
  go_wp2
  rw [run_callFunc_extern Tryd.func123 (by kernel_rfl) (by kernel_rfl) (by kernel_rfl) (e := Extern.BytealgIndexByte.indexByte) (by kernel_rfl), Lib.run_indexByteString]
  simp only [Result.andThen]
  rw [Oper.upon_value]
  go_wp2
  go_ret
  exact ⟨rfl, rfl⟩
/-- Functions that the machine's own entries stand behind. -/
def XL : Ext := fun f args σ v σ' => f = 116 ∧ ∃ (l : List UInt8) (b : UInt8), args = [.string (str l), .int .u8 (b.toNat : Int)] ∧ v = .int .i64 (Lib.indexByte l b) ∧ σ' = σ
theorem XL_sound : ∀ f args σ v σ', XL f args σ v σ' → ∀ base, CallSound Tryd.prog base f args σ v σ' ∧ σ.length ≤ σ'.length := by
  rintro f args σ v σ' ⟨rfl, l, b, rfl, rfl, rfl⟩ base
  refine ⟨fun β w cargs hrel hs hf => ?_, Nat.le_refl _⟩
  obtain ⟨cl⟩ := cargs
  simp only at hrel
  obtain ⟨x, y, rfl, h, h2⟩ : ∃ x y, cl = [x, y] ∧ Rel β (.string (str l)) x ∧ Rel β (.int .u8 (b.toNat : Int)) y := by
    match cl, hrel with
    | [x, y], .cons _ _ _ _ h (.cons _ _ _ _ h2 .nil) => exact ⟨x, y, rfl, h, h2⟩
  obtain rfl := h.string_inv
  obtain rfl := h2.int_inv
  refine (lib116 _ _ w).mono fun e w' hh => ?_
  obtain ⟨rfl, rfl⟩ := hh
  refine ⟨β, _, rfl, ?_, hs, Step.refl _ _ _⟩
  simp
  exact .scal _ rfl
theorem f116_ok (l : List UInt8) (b : UInt8) (σ : Heap) : CW Tryd.prog XL 116 [.string (str l), .int .u8 (b.toNat : Int)] σ fun v σ' => v = .int .i64 (Lib.indexByte l b) ∧ σ' = σ :=
  ⟨by kernel_rfl, _, _, .ext ⟨rfl, l, b, rfl, rfl, rfl⟩, rfl, rfl⟩
theorem f100_ok (l : List UInt8) (b : UInt8) (σ : Heap) : CW Tryd.prog XL 100 [.string (str l), .int .u8 (b.toNat : Int)] σ fun v σ' => v = .int .i64 (Lib.indexByte l b) ∧ σ' = σ := by
  refine cw_in Tryd.func100 rfl Tryd.ntmps100 (rs := [.tmp 4]) rfl (by kernel_rfl) (by exact Nat.le_of_ble_eq_true rfl) ?_
  simp only [go_sem, ↓reduceIte, Nat.reduceEqDiff, Nat.reduceAdd, Nat.reduceMul, Nat.reduceLT, Nat.reduceLeDiff, Int.reduceLT, Int.reduceLE, Int.reduceNeg, Int.reduceAdd, Int.reduceSub, Int.reduceMul, Int.reduceToNat, Int.reduceEq, Int.reduceNe, Int.cast_ofNat_Int, Int.natCast_one, Int.natCast_zero, Int.natCast_add, reduceCtorEq]
  refine (f116_ok l b _).mono ?_
  rintro _ _ ⟨rfl, rfl⟩
  simp only [go_sem, ↓reduceIte, Nat.reduceEqDiff, Nat.reduceAdd, Nat.reduceMul, Nat.reduceLT, Nat.reduceLeDiff, Int.reduceLT, Int.reduceLE, Int.reduceNeg, Int.reduceAdd, Int.reduceSub, Int.reduceMul, Int.reduceToNat, Int.reduceEq, Int.reduceNe, Int.cast_ofNat_Int, Int.natCast_one, Int.natCast_zero, Int.natCast_add, reduceCtorEq]
theorem index_mem : ∀ (l : List UInt8) (b : UInt8), 0 ≤ Lib.indexByte l b ↔ b ∈ l
  | [], b => by simp [Lib.indexByte]
  | c :: l, b => by
    have ih := index_mem l b
    have hg := Lib.indexByte_ge l b
    unfold Lib.indexByte
    by_cases h : c = b
    · subst h; simp
    · have h1 : (c == b) = false := by simpa using h
      simp only [h1, Bool.false_eq_true, if_false, List.mem_cons, Ne.symm h, false_or]
      rw [← ih]
      split
      · rename_i h2
        have : Lib.indexByte l b = -1 := by simpa using h2
        omega
      · rename_i h2
        have : Lib.indexByte l b ≠ -1 := by simpa using h2
        omega

theorem ends_ct {P : Program} {T : Tm} {σ : Heap} {a b : Tmp} {t : TypeId} : aresults P T σ [.cell a t, .tmp b] = (aload P σ t (T a)).map fun v => .tuple #[v, T b] := by
  simp only [aresults, List.mapM_cons, List.mapM_nil, aresult]
  cases aload P σ t (T a) <;> rfl
theorem ends_cc {P : Program} {T : Tm} {σ : Heap} {a b : Tmp} {t u : TypeId} : aresults P T σ [.cell a t, .cell b u] = (aload P σ t (T a)).bind fun v => (aload P σ u (T b)).map fun w => .tuple #[v, w] := by
  simp only [aresults, List.mapM_cons, List.mapM_nil, aresult]
  cases aload P σ t (T a) with
  | none => rfl
  | some x => cases aload P σ u (T b) <;> rfl
attribute [go_sem ↓] ends_ct ends_cc

/-! ### a sign at the beginning -/
def single : List UInt8 := [43, 45, 42, 47, 37, 38, 124, 94, 126, 40, 41, 44, 58, 61, 64]
def signAt (l : List UInt8) : List UInt8 :=
  if 2 ≤ l.length ∧ (l.take 2 = [60, 60] ∨ l.take 2 = [62, 62]) then l.take 2 else if ∃ b, l.head? = some b ∧ b ∈ single then l.take 1 else []
set_option maxHeartbeats 1000000 in
theorem f69_ok (l : List UInt8) (hs : l.length ≤ 140737488351232) (σ : Heap) : CW Tryd.prog XL 69 [.string (str l)] σ fun v σ' => v = .string (str (signAt l)) ∧ σ' = σ := by
  refine cw_in Tryd.func69 rfl Tryd.ntmps69 (rs := [.tmp 2]) rfl (by kernel_rfl) (by exact Nat.le_of_ble_eq_true rfl) ?_
  have c1 : List.take 2 (List.drop 0 ([60, 60, 62, 62] : List UInt8)) = [60, 60] := rfl
  have c2 : List.take (4 - 2) (List.drop 2 ([60, 60, 62, 62] : List UInt8)) = [62, 62] := rfl
  by_cases h2 : 2 ≤ l.length
  · have h2i : (2 : Int) ≤ (l.length : Int) := by omega
    simp only [go_sem, ↓reduceIte, Nat.reduceEqDiff, Nat.reduceAdd, Nat.reduceMul, Nat.reduceLT, Nat.reduceLeDiff, Int.reduceLT, Int.reduceLE, Int.reduceNeg, Int.reduceAdd, Int.reduceSub, Int.reduceMul, Int.reduceToNat, Int.reduceEq, Int.reduceNe, Int.cast_ofNat_Int, Int.natCast_one, Int.natCast_zero, Int.natCast_add, reduceCtorEq, h2i, c1, c2]
    by_cases h3 : l.take 2 = [60, 60]
    · simp only [go_sem, ↓reduceIte, Nat.reduceEqDiff, Nat.reduceAdd, Nat.reduceMul, Nat.reduceLT, Nat.reduceLeDiff, Int.reduceLT, Int.reduceLE, Int.reduceNeg, Int.reduceAdd, Int.reduceSub, Int.reduceMul, Int.reduceToNat, Int.reduceEq, Int.reduceNe, Int.cast_ofNat_Int, Int.natCast_one, Int.natCast_zero, Int.natCast_add, reduceCtorEq, h3, h2i]
      rw [signAt, if_pos ⟨h2, .inl h3⟩, h3]
    · simp only [go_sem, ↓reduceIte, Nat.reduceEqDiff, Nat.reduceAdd, Nat.reduceMul, Nat.reduceLT, Nat.reduceLeDiff, Int.reduceLT, Int.reduceLE, Int.reduceNeg, Int.reduceAdd, Int.reduceSub, Int.reduceMul, Int.reduceToNat, Int.reduceEq, Int.reduceNe, Int.cast_ofNat_Int, Int.natCast_one, Int.natCast_zero, Int.natCast_add, reduceCtorEq, h3, h2i, Nat.sub_zero, c2]
      by_cases h4 : l.take 2 = [62, 62]
      · simp only [go_sem, ↓reduceIte, Nat.reduceEqDiff, Nat.reduceAdd, Nat.reduceMul, Nat.reduceLT, Nat.reduceLeDiff, Int.reduceLT, Int.reduceLE, Int.reduceNeg, Int.reduceAdd, Int.reduceSub, Int.reduceMul, Int.reduceToNat, Int.reduceEq, Int.reduceNe, Int.cast_ofNat_Int, Int.natCast_one, Int.natCast_zero, Int.natCast_add, reduceCtorEq, h4, h2i, Nat.sub_zero]
        rw [signAt, if_pos ⟨h2, .inr h4⟩, h4]
      · simp only [go_sem, ↓reduceIte, Nat.reduceEqDiff, Nat.reduceAdd, Nat.reduceMul, Nat.reduceLT, Nat.reduceLeDiff, Int.reduceLT, Int.reduceLE, Int.reduceNeg, Int.reduceAdd, Int.reduceSub, Int.reduceMul, Int.reduceToNat, Int.reduceEq, Int.reduceNe, Int.cast_ofNat_Int, Int.natCast_one, Int.natCast_zero, Int.natCast_add, reduceCtorEq, h4]
        have hsig : signAt l = if ∃ b, l.head? = some b ∧ b ∈ single then l.take 1 else [] := by
          rw [signAt, if_neg (fun h => h.2.elim h3 h4)]
        cases hl : l with
        | nil =>
          simp only [go_sem, ↓reduceIte, Nat.reduceEqDiff, Nat.reduceAdd, Nat.reduceMul, Nat.reduceLT, Nat.reduceLeDiff, Int.reduceLT, Int.reduceLE, Int.reduceNeg, Int.reduceAdd, Int.reduceSub, Int.reduceMul, Int.reduceToNat, Int.reduceEq, Int.reduceNe, Int.cast_ofNat_Int, Int.natCast_one, Int.natCast_zero, Int.natCast_add, reduceCtorEq]
          rfl
        | cons b r =>
          have hx := index_mem single b
          simp only [go_sem, ↓reduceIte, Nat.reduceEqDiff, Nat.reduceAdd, Nat.reduceMul, Nat.reduceLT, Nat.reduceLeDiff, Int.reduceLT, Int.reduceLE, Int.reduceNeg, Int.reduceAdd, Int.reduceSub, Int.reduceMul, Int.reduceToNat, Int.reduceEq, Int.reduceNe, Int.cast_ofNat_Int, Int.natCast_one, Int.natCast_zero, Int.natCast_add, reduceCtorEq, hl, show ¬ (b :: r = []) by simp]
          refine (f100_ok single b σ).mono ?_
          rintro _ _ ⟨rfl, rfl⟩
          simp only [go_sem, ↓reduceIte, Nat.reduceEqDiff, Nat.reduceAdd, Nat.reduceMul, Nat.reduceLT, Nat.reduceLeDiff, Int.reduceLT, Int.reduceLE, Int.reduceNeg, Int.reduceAdd, Int.reduceSub, Int.reduceMul, Int.reduceToNat, Int.reduceEq, Int.reduceNe, Int.cast_ofNat_Int, Int.natCast_one, Int.natCast_zero, Int.natCast_add, reduceCtorEq, hl]
          by_cases hm : b ∈ single
          · rw [hl] at hsig
            simp only [go_sem, ↓reduceIte, Nat.reduceEqDiff, Nat.reduceAdd, Nat.reduceMul, Nat.reduceLT, Nat.reduceLeDiff, Int.reduceLT, Int.reduceLE, Int.reduceNeg, Int.reduceAdd, Int.reduceSub, Int.reduceMul, Int.reduceToNat, Int.reduceEq, Int.reduceNe, Int.cast_ofNat_Int, Int.natCast_one, Int.natCast_zero, Int.natCast_add, reduceCtorEq, hx.2 hm, show (1 : Int) ≤ ((r.length : Int) + 1) by omega]
            rw [hsig, if_pos ⟨b, rfl, hm⟩]
            rfl
          · rw [hl] at hsig
            simp only [go_sem, ↓reduceIte, Nat.reduceEqDiff, Nat.reduceAdd, Nat.reduceMul, Nat.reduceLT, Nat.reduceLeDiff, Int.reduceLT, Int.reduceLE, Int.reduceNeg, Int.reduceAdd, Int.reduceSub, Int.reduceMul, Int.reduceToNat, Int.reduceEq, Int.reduceNe, Int.cast_ofNat_Int, Int.natCast_one, Int.natCast_zero, Int.natCast_add, reduceCtorEq, show ¬ 0 ≤ Lib.indexByte single b from fun h => hm (hx.1 h)]
            rw [hsig, if_neg]
            rintro ⟨b', hb', hm'⟩
            simp at hb'
            subst hb'
            exact hm hm'
  · simp only [go_sem, ↓reduceIte, Nat.reduceEqDiff, Nat.reduceAdd, Nat.reduceMul, Nat.reduceLT, Nat.reduceLeDiff, Int.reduceLT, Int.reduceLE, Int.reduceNeg, Int.reduceAdd, Int.reduceSub, Int.reduceMul, Int.reduceToNat, Int.reduceEq, Int.reduceNe, Int.cast_ofNat_Int, Int.natCast_one, Int.natCast_zero, Int.natCast_add, reduceCtorEq, show ¬ (2 : Int) ≤ (l.length : Int) by omega]
    have hsig : signAt l = if ∃ b, l.head? = some b ∧ b ∈ single then l.take 1 else [] := by
      rw [signAt, if_neg (fun h => h2 h.1)]
    cases hl : l with
    | nil =>
      simp only [go_sem, ↓reduceIte, Nat.reduceEqDiff, Nat.reduceAdd, Nat.reduceMul, Nat.reduceLT, Nat.reduceLeDiff, Int.reduceLT, Int.reduceLE, Int.reduceNeg, Int.reduceAdd, Int.reduceSub, Int.reduceMul, Int.reduceToNat, Int.reduceEq, Int.reduceNe, Int.cast_ofNat_Int, Int.natCast_one, Int.natCast_zero, Int.natCast_add, reduceCtorEq]
      rfl
    | cons b r =>
      have hx := index_mem single b
      simp only [go_sem, ↓reduceIte, Nat.reduceEqDiff, Nat.reduceAdd, Nat.reduceMul, Nat.reduceLT, Nat.reduceLeDiff, Int.reduceLT, Int.reduceLE, Int.reduceNeg, Int.reduceAdd, Int.reduceSub, Int.reduceMul, Int.reduceToNat, Int.reduceEq, Int.reduceNe, Int.cast_ofNat_Int, Int.natCast_one, Int.natCast_zero, Int.natCast_add, reduceCtorEq, hl, show ¬ (b :: r = []) by simp]
      refine (f100_ok single b σ).mono ?_
      rintro _ _ ⟨rfl, rfl⟩
      simp only [go_sem, ↓reduceIte, Nat.reduceEqDiff, Nat.reduceAdd, Nat.reduceMul, Nat.reduceLT, Nat.reduceLeDiff, Int.reduceLT, Int.reduceLE, Int.reduceNeg, Int.reduceAdd, Int.reduceSub, Int.reduceMul, Int.reduceToNat, Int.reduceEq, Int.reduceNe, Int.cast_ofNat_Int, Int.natCast_one, Int.natCast_zero, Int.natCast_add, reduceCtorEq, hl]
      by_cases hm : b ∈ single
      · rw [hl] at hsig
        simp only [go_sem, ↓reduceIte, Nat.reduceEqDiff, Nat.reduceAdd, Nat.reduceMul, Nat.reduceLT, Nat.reduceLeDiff, Int.reduceLT, Int.reduceLE, Int.reduceNeg, Int.reduceAdd, Int.reduceSub, Int.reduceMul, Int.reduceToNat, Int.reduceEq, Int.reduceNe, Int.cast_ofNat_Int, Int.natCast_one, Int.natCast_zero, Int.natCast_add, reduceCtorEq, hx.2 hm, show (1 : Int) ≤ ((r.length : Int) + 1) by omega]
        rw [hsig, if_pos ⟨b, rfl, hm⟩]
        rfl
      · rw [hl] at hsig
        simp only [go_sem, ↓reduceIte, Nat.reduceEqDiff, Nat.reduceAdd, Nat.reduceMul, Nat.reduceLT, Nat.reduceLeDiff, Int.reduceLT, Int.reduceLE, Int.reduceNeg, Int.reduceAdd, Int.reduceSub, Int.reduceMul, Int.reduceToNat, Int.reduceEq, Int.reduceNe, Int.cast_ofNat_Int, Int.natCast_one, Int.natCast_zero, Int.natCast_add, reduceCtorEq, show ¬ 0 ≤ Lib.indexByte single b from fun h => hm (hx.1 h)]
        rw [hsig, if_neg]
        rintro ⟨b', hb', hm'⟩
        simp at hb'
        subst hb'
        exact hm hm'
end Go.Proofs.YtkgdkommahgakaaDoor.Abs
