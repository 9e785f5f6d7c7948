import Derived.Test.YtkgdkommahgakaaDoorTypes
import Derived.Lib.Strings
namespace Go.Proofs.YtkgdkommahgakaaDoor.Abs
open Go Go.RowKit
set_option linter.unusedVariables false
set_option linter.unusedSimpArgs false
set_option maxRecDepth 100000

theorem quiet_pre {P : Program} {o : Oper} {ops : Array Oper} {k : Nat} {T : Tm} {σ σ' : Heap} (h : σ <+: σ') : Quiet P o ops k T σ σ' := .inr (.inl (.inl h))
theorem quiet_late {P : Program} {o : Oper} {ops : Array Oper} {k : Nat} {T : Tm} {σ σ' : Heap} (h : lateOk ops = true) (la lb : List Tmp) (h1 : (List.range ops.size).filterMap (lateLd ops) = la) (h2 : (List.range ops.size).filterMap (lateSt ops) = lb) (h3 : ∀ a ∈ la, ∀ b ∈ lb, ptrOf (T a) ≠ ptrOf (T b)) : Quiet P o ops k T σ σ' :=
  .inr (.inr ⟨h, by rw [h1, h2]; exact h3⟩)
/-! ### bytes -/
def dig (c : Int) : Bool := decide (48 ≤ c ∧ c ≤ 57)
def nb (c : Int) : Bool := decide ((97 ≤ c ∧ c ≤ 122) ∨ (65 ≤ c ∧ c ≤ 90) ∨ (48 ≤ c ∧ c ≤ 57) ∨ c = 46 ∨ c = 95 ∨ c = 36)
theorem f86_ok (X : Ext) (c : Int) (σ : Heap) : CW Tryd.prog X 86 [.int .u8 c] σ fun v σ' => v = .bool (dig c) ∧ σ' = σ := by
  refine cw_in Tryd.func86 rfl Tryd.ntmps86 (rs := [.tmp 2]) rfl (by kernel_rfl) (by exact Nat.le_of_ble_eq_true rfl) ?_
  simp only [go_sem, ↓reduceIte, Nat.reduceEqDiff, Nat.reduceAdd, Nat.reduceMul, Nat.reduceLT, Nat.reduceLeDiff, Int.reduceLT, Int.reduceLE, Int.reduceNeg, Int.reduceAdd, Int.reduceSub, Int.reduceMul, Int.reduceToNat, Int.reduceEq, Int.reduceNe, Int.cast_ofNat_Int, Int.natCast_one, Int.natCast_zero, Int.natCast_add, reduceCtorEq]
  repeat' (refine fork_dec (fun _ => ?_) (fun _ => ?_) <;> simp only [go_sem, ↓reduceIte, Nat.reduceEqDiff, Nat.reduceAdd, Nat.reduceMul, Nat.reduceLT, Nat.reduceLeDiff, Int.reduceLT, Int.reduceLE, Int.reduceNeg, Int.reduceAdd, Int.reduceSub, Int.reduceMul, Int.reduceToNat, Int.reduceEq, Int.reduceNe, Int.cast_ofNat_Int, Int.natCast_one, Int.natCast_zero, Int.natCast_add, reduceCtorEq, *])
  · simp only [dig, *, true_and]
  · simp only [dig, *, false_and, decide_false]
theorem f22_ok (X : Ext) (n lo hi : Int) (σ : Heap) : CW Tryd.prog X 22 [.int .i64 n, .int .i64 lo, .int .i64 hi] σ fun v σ' => v = .bool (decide (lo ≤ n ∧ n ≤ hi)) ∧ σ' = σ := by
  refine cw_in Tryd.func22 rfl Tryd.ntmps22 (rs := [.tmp 6]) rfl (by kernel_rfl) (by exact Nat.le_of_ble_eq_true rfl) ?_
  simp only [go_sem, ↓reduceIte, Nat.reduceEqDiff, Nat.reduceAdd, Nat.reduceMul, Nat.reduceLT, Nat.reduceLeDiff, Int.reduceLT, Int.reduceLE, Int.reduceNeg, Int.reduceAdd, Int.reduceSub, Int.reduceMul, Int.reduceToNat, Int.reduceEq, Int.reduceNe, Int.cast_ofNat_Int, Int.natCast_one, Int.natCast_zero, Int.natCast_add, reduceCtorEq]
  repeat' (refine fork_dec (fun _ => ?_) (fun _ => ?_) <;> simp only [go_sem, ↓reduceIte, Nat.reduceEqDiff, Nat.reduceAdd, Nat.reduceMul, Nat.reduceLT, Nat.reduceLeDiff, Int.reduceLT, Int.reduceLE, Int.reduceNeg, Int.reduceAdd, Int.reduceSub, Int.reduceMul, Int.reduceToNat, Int.reduceEq, Int.reduceNe, Int.cast_ofNat_Int, Int.natCast_one, Int.natCast_zero, Int.natCast_add, reduceCtorEq, *])
set_option maxHeartbeats 1000000 in
theorem f85_ok (X : Ext) (c : Int) (σ : Heap) : CW Tryd.prog X 85 [.int .u8 c] σ fun v σ' => v = .bool (nb c) ∧ σ' = σ := by
  refine cw_in Tryd.func85 rfl Tryd.ntmps85 (rs := [.tmp 2]) rfl (by kernel_rfl) (by exact Nat.le_of_ble_eq_true rfl) ?_
  simp only [go_sem, ↓reduceIte, Nat.reduceEqDiff, Nat.reduceAdd, Nat.reduceMul, Nat.reduceLT, Nat.reduceLeDiff, Int.reduceLT, Int.reduceLE, Int.reduceNeg, Int.reduceAdd, Int.reduceSub, Int.reduceMul, Int.reduceToNat, Int.reduceEq, Int.reduceNe, Int.cast_ofNat_Int, Int.natCast_one, Int.natCast_zero, Int.natCast_add, reduceCtorEq]
  repeat' (first | (refine fork_dec (fun _ => ?_) (fun _ => ?_) <;> simp only [go_sem, ↓reduceIte, Nat.reduceEqDiff, Nat.reduceAdd, Nat.reduceMul, Nat.reduceLT, Nat.reduceLeDiff, Int.reduceLT, Int.reduceLE, Int.reduceNeg, Int.reduceAdd, Int.reduceSub, Int.reduceMul, Int.reduceToNat, Int.reduceEq, Int.reduceNe, Int.cast_ofNat_Int, Int.natCast_one, Int.natCast_zero, Int.natCast_add, reduceCtorEq, *]) | (refine (f86_ok X c _).mono ?_; rintro _ _ ⟨rfl, rfl⟩; simp only [go_sem, ↓reduceIte, Nat.reduceEqDiff, Nat.reduceAdd, Nat.reduceMul, Nat.reduceLT, Nat.reduceLeDiff, Int.reduceLT, Int.reduceLE, Int.reduceNeg, Int.reduceAdd, Int.reduceSub, Int.reduceMul, Int.reduceToNat, Int.reduceEq, Int.reduceNe, Int.cast_ofNat_Int, Int.natCast_one, Int.natCast_zero, Int.natCast_add, reduceCtorEq, dig, *]) | (refine fork_intro (fun _ => ?_) (fun _ => ?_) <;> simp only [go_sem, ↓reduceIte, Nat.reduceEqDiff, Nat.reduceAdd, Nat.reduceMul, Nat.reduceLT, Nat.reduceLeDiff, Int.reduceLT, Int.reduceLE, Int.reduceNeg, Int.reduceAdd, Int.reduceSub, Int.reduceMul, Int.reduceToNat, Int.reduceEq, Int.reduceNe, Int.cast_ofNat_Int, Int.natCast_one, Int.natCast_zero, Int.natCast_add, reduceCtorEq, *]))
  all_goals refine congrArg _ ?_
  all_goals try simp only [decide_eq_true_eq, decide_eq_false_iff_not] at *
  all_goals first | exact (decide_eq_true (by omega)).symm | exact (decide_eq_false (by omega)).symm | exact decide_eq_decide.2 (by omega)
set_option maxHeartbeats 1000000 in
theorem f84_ok (X : Ext) (c : Int) (hc : 0 ≤ c ∧ c ≤ 255) (σ : Heap) : CW Tryd.prog X 84 [.int .u8 c] σ fun v σ' => v = .bool (nb c) ∧ σ' = σ := by
  refine cw_in Tryd.func84 rfl Tryd.ntmps84 (rs := [.tmp 2]) rfl (by kernel_rfl) (by exact Nat.le_of_ble_eq_true rfl) ?_
  have hw : IntKind.i64.wrap c = c := wrap64 (by omega)
  clear hc
  simp only [go_sem, ↓reduceIte, Nat.reduceEqDiff, Nat.reduceAdd, Nat.reduceMul, Nat.reduceLT, Nat.reduceLeDiff, Int.reduceLT, Int.reduceLE, Int.reduceNeg, Int.reduceAdd, Int.reduceSub, Int.reduceMul, Int.reduceToNat, Int.reduceEq, Int.reduceNe, Int.cast_ofNat_Int, Int.natCast_one, Int.natCast_zero, Int.natCast_add, reduceCtorEq, hw]
  repeat' (first | (refine (f22_ok X c _ _ _).mono ?_; rintro _ _ ⟨rfl, rfl⟩; simp only [go_sem, ↓reduceIte, Nat.reduceEqDiff, Nat.reduceAdd, Nat.reduceMul, Nat.reduceLT, Nat.reduceLeDiff, Int.reduceLT, Int.reduceLE, Int.reduceNeg, Int.reduceAdd, Int.reduceSub, Int.reduceMul, Int.reduceToNat, Int.reduceEq, Int.reduceNe, Int.cast_ofNat_Int, Int.natCast_one, Int.natCast_zero, Int.natCast_add, reduceCtorEq, *]) | (refine fork_dec (fun _ => ?_) (fun _ => ?_) <;> simp only [go_sem, ↓reduceIte, Nat.reduceEqDiff, Nat.reduceAdd, Nat.reduceMul, Nat.reduceLT, Nat.reduceLeDiff, Int.reduceLT, Int.reduceLE, Int.reduceNeg, Int.reduceAdd, Int.reduceSub, Int.reduceMul, Int.reduceToNat, Int.reduceEq, Int.reduceNe, Int.cast_ofNat_Int, Int.natCast_one, Int.natCast_zero, Int.natCast_add, reduceCtorEq, *]) | (refine fork_intro (fun _ => ?_) (fun _ => ?_) <;> simp only [go_sem, ↓reduceIte, Nat.reduceEqDiff, Nat.reduceAdd, Nat.reduceMul, Nat.reduceLT, Nat.reduceLeDiff, Int.reduceLT, Int.reduceLE, Int.reduceNeg, Int.reduceAdd, Int.reduceSub, Int.reduceMul, Int.reduceToNat, Int.reduceEq, Int.reduceNe, Int.cast_ofNat_Int, Int.natCast_one, Int.natCast_zero, Int.natCast_add, reduceCtorEq, *]))
  all_goals refine congrArg _ ?_
  all_goals try simp only [decide_eq_true_eq, decide_eq_false_iff_not] at *
  all_goals first | exact (decide_eq_true (by omega)).symm | exact (decide_eq_false (by omega)).symm | exact decide_eq_decide.2 (by omega)
set_option maxHeartbeats 1000000 in
theorem f20_ok (X : Ext) (a b : Int) (σ : Heap) : CW Tryd.prog X 20 [.int .i64 a, .int .i64 b] σ fun v σ' => v = .agg [.int .i64 a, .int .i64 b].toArray ∧ σ <+: σ' := by
  refine cw_in Tryd.func20 rfl Tryd.ntmps20 (rs := [.cell 4 26]) rfl (by kernel_rfl) (by exact Nat.le_of_ble_eq_true rfl) ?_
  simp only [go_sem, ↓reduceIte, Nat.reduceEqDiff, Nat.reduceAdd, Nat.reduceMul, Nat.reduceLT, Nat.reduceLeDiff, Int.reduceLT, Int.reduceLE, Int.reduceNeg, Int.reduceAdd, Int.reduceSub, Int.reduceMul, Int.reduceToNat, Int.reduceEq, Int.reduceNe, Int.cast_ofNat_Int, Int.natCast_one, Int.natCast_zero, Int.natCast_add, reduceCtorEq]
  exact List.prefix_append _ _

/-! ### strings, as lists of bytes -/
abbrev str (l : List UInt8) : ByteArray := ⟨l.toArray⟩
theorem str_data (s : ByteArray) : s = str s.data.toList := (Lib.mk_data s).symm
theorem str_size (l : List UInt8) : (str l).size = l.length := by simp [ByteArray.size]
theorem str_at (l : List UInt8) (i : Nat) : (str l).data[i]? = l[i]? := by simp
theorem str_ext (l : List UInt8) (a b : Nat) : (str l).extract a b = str ((l.drop a).take (b - a)) := by rw [Lib.extract_eq]
theorem str_app (a b : List UInt8) : str a ++ str b = str (a ++ b) := by
  apply ByteArray.ext
  simp
theorem str_eq (a b : List UInt8) : (str a = str b) = (a = b) := by
  apply propext
  constructor
  · intro h
    have := congrArg (fun s : ByteArray => s.data.toList) h
    simpa using this
  · rintro rfl; rfl
theorem sadd {P : Program} {t : TypeId} {a b : List UInt8} (h : a.length + b.length ≤ 9223372036854775807) : abin P .add t (.string (str a)) (.string (str b)) = some (.string (str (a ++ b))) := by
  rw [s_add (by rw [str_size, str_size]; omega), str_app]
attribute [go_sem] str_size List.getElem?_toArray str_ext str_app str_eq
def nbB (b : UInt8) : Bool := nb (b.toNat : Int)
def digB (b : UInt8) : Bool := dig (b.toNat : Int)
/-- A name. -/
def nameOk (l : List UInt8) : Bool := decide (1 ≤ l.length) && (decide (l.length ≤ 16) && (l.all nbB && !(l.head?.any digB)))
theorem take_all {α : Type} {p : α → Bool} {l : List α} {i : Nat} {b : α} (h : l[i]? = some b) (hv : (l.take i).all p = true) (hb : p b = true) : (l.take (i + 1)).all p = true := by
  rw [List.take_add_one, h, List.all_append, hv]
  simp [hb]
theorem all_at {α : Type} {p : α → Bool} {l : List α} {i : Nat} {b : α} (h : l[i]? = some b) (hb : p b = false) : l.all p = false := by
  rw [List.all_eq_false]
  exact ⟨b, List.mem_of_getElem? h, by simp [hb]⟩

set_option maxHeartbeats 1000000 in
theorem f55_ok (X : Ext) (l : List UInt8) (hs : l.length ≤ 140737488351232) (σ : Heap) : CW Tryd.prog X 55 [.string (str l)] σ fun v σ' => v = .bool (nameOk l) ∧ σ' = σ := by
  refine cw_in Tryd.func55 rfl Tryd.ntmps55 (rs := [.tmp 2]) rfl (by kernel_rfl) (by exact Nat.le_of_ble_eq_true rfl) ?_
  simp only [go_sem, ↓reduceIte, Nat.reduceEqDiff, Nat.reduceAdd, Nat.reduceMul, Nat.reduceLT, Nat.reduceLeDiff, Int.reduceLT, Int.reduceLE, Int.reduceNeg, Int.reduceAdd, Int.reduceSub, Int.reduceMul, Int.reduceToNat, Int.reduceEq, Int.reduceNe, Int.cast_ofNat_Int, Int.natCast_one, Int.natCast_zero, Int.natCast_add, reduceCtorEq]
  refine LW_run (fun k T σ' => ∃ i : Nat, i + k = l.length ∧ σ' = σ ∧ T 0 = .string (str l) ∧ T 5 = .int .i64 l.length ∧ T 6 = .int .i64 i ∧ (l.take i).all nbB = true ∧ (0 < i → l.head?.any digB = false)) l.length ⟨0, by simp, rfl, rfl, rfl, rfl, by simp, fun h => by omega⟩ ?_
  rintro k T _ ⟨i, hk, rfl, t0, t5, t6, hv, hd⟩
  simp only [go_sem, ↓reduceIte, Nat.reduceEqDiff, Nat.reduceAdd, Nat.reduceMul, Nat.reduceLT, Nat.reduceLeDiff, Int.reduceLT, Int.reduceLE, Int.reduceNeg, Int.reduceAdd, Int.reduceSub, Int.reduceMul, Int.reduceToNat, Int.reduceEq, Int.reduceNe, Int.cast_ofNat_Int, Int.natCast_one, Int.natCast_zero, Int.natCast_add, reduceCtorEq, t0, t5, t6]
  refine fork_dec (fun _ => ?_) (fun _ => ?_)
  · rename_i hi
    have hw : IntKind.i64.wrap ((i : Int) + 1) = (i : Int) + 1 := wrap64 (by omega)
    obtain ⟨b, hb⟩ : ∃ b, l[i]? = some b := ⟨_, List.getElem?_eq_getElem (by omega)⟩
    simp only [go_sem, ↓reduceIte, Nat.reduceEqDiff, Nat.reduceAdd, Nat.reduceMul, Nat.reduceLT, Nat.reduceLeDiff, Int.reduceLT, Int.reduceLE, Int.reduceNeg, Int.reduceAdd, Int.reduceSub, Int.reduceMul, Int.reduceToNat, Int.reduceEq, Int.reduceNe, Int.cast_ofNat_Int, Int.natCast_one, Int.natCast_zero, Int.natCast_add, reduceCtorEq, t0, t5, t6, hi, hb]
    refine (f85_ok X _ _).mono ?_
    rintro _ _ ⟨rfl, rfl⟩
    cases hn : nb (b.toNat : Int) with
    | false =>
      simp only [go_sem, ↓reduceIte, Nat.reduceEqDiff, Nat.reduceAdd, Nat.reduceMul, Nat.reduceLT, Nat.reduceLeDiff, Int.reduceLT, Int.reduceLE, Int.reduceNeg, Int.reduceAdd, Int.reduceSub, Int.reduceMul, Int.reduceToNat, Int.reduceEq, Int.reduceNe, Int.cast_ofNat_Int, Int.natCast_one, Int.natCast_zero, Int.natCast_add, reduceCtorEq, hn]
      simp only [nameOk, all_at hb (show nbB b = false from hn), Bool.false_and, Bool.and_false]
    | true =>
      have hv2 := take_all hb hv (show nbB b = true from hn)
      simp only [go_sem, ↓reduceIte, Nat.reduceEqDiff, Nat.reduceAdd, Nat.reduceMul, Nat.reduceLT, Nat.reduceLeDiff, Int.reduceLT, Int.reduceLE, Int.reduceNeg, Int.reduceAdd, Int.reduceSub, Int.reduceMul, Int.reduceToNat, Int.reduceEq, Int.reduceNe, Int.cast_ofNat_Int, Int.natCast_one, Int.natCast_zero, Int.natCast_add, reduceCtorEq, t0, t5, t6, hn]
      by_cases h0 : i = 0
      · subst h0
        simp only [go_sem, ↓reduceIte, Nat.reduceEqDiff, Nat.reduceAdd, Nat.reduceMul, Nat.reduceLT, Nat.reduceLeDiff, Int.reduceLT, Int.reduceLE, Int.reduceNeg, Int.reduceAdd, Int.reduceSub, Int.reduceMul, Int.reduceToNat, Int.reduceEq, Int.reduceNe, Int.cast_ofNat_Int, Int.natCast_one, Int.natCast_zero, Int.natCast_add, reduceCtorEq, t0, t5, t6, hi, hb]
        refine (f86_ok X _ _).mono ?_
        rintro _ _ ⟨rfl, rfl⟩
        have hh : l.head?.any digB = dig (b.toNat : Int) := by
          rw [List.head?_eq_getElem?, hb]
          rfl
        cases hd0 : dig (b.toNat : Int) with
        | true =>
          simp only [go_sem, ↓reduceIte, Nat.reduceEqDiff, Nat.reduceAdd, Nat.reduceMul, Nat.reduceLT, Nat.reduceLeDiff, Int.reduceLT, Int.reduceLE, Int.reduceNeg, Int.reduceAdd, Int.reduceSub, Int.reduceMul, Int.reduceToNat, Int.reduceEq, Int.reduceNe, Int.cast_ofNat_Int, Int.natCast_one, Int.natCast_zero, Int.natCast_add, reduceCtorEq, hd0]
          simp only [nameOk, hh, hd0, Bool.not_true, Bool.and_false]
        | false =>
          simp only [go_sem, ↓reduceIte, Nat.reduceEqDiff, Nat.reduceAdd, Nat.reduceMul, Nat.reduceLT, Nat.reduceLeDiff, Int.reduceLT, Int.reduceLE, Int.reduceNeg, Int.reduceAdd, Int.reduceSub, Int.reduceMul, Int.reduceToNat, Int.reduceEq, Int.reduceNe, Int.cast_ofNat_Int, Int.natCast_one, Int.natCast_zero, Int.natCast_add, reduceCtorEq, t0, t5, t6, hd0, hw]
          refine ⟨k - 1, by omega, 1, by omega, ?_⟩
          (repeat' (first | exact rfl | apply And.intro))
          · exact hv2
          · exact fun _ => hh.trans hd0
      · simp only [go_sem, ↓reduceIte, Nat.reduceEqDiff, Nat.reduceAdd, Nat.reduceMul, Nat.reduceLT, Nat.reduceLeDiff, Int.reduceLT, Int.reduceLE, Int.reduceNeg, Int.reduceAdd, Int.reduceSub, Int.reduceMul, Int.reduceToNat, Int.reduceEq, Int.reduceNe, Int.cast_ofNat_Int, Int.natCast_one, Int.natCast_zero, Int.natCast_add, reduceCtorEq, t0, t5, t6, show ¬ (i : Int) = 0 by omega, hw]
        refine ⟨k - 1, by omega, i + 1, by omega, ?_⟩
        (repeat' (first | exact rfl | apply And.intro))
        · exact hv2
        · exact fun _ => hd (by omega)
  · rename_i hi
    have e : i = l.length := by omega
    subst e
    rw [List.take_length] at hv
    simp only [go_sem, ↓reduceIte, Nat.reduceEqDiff, Nat.reduceAdd, Nat.reduceMul, Nat.reduceLT, Nat.reduceLeDiff, Int.reduceLT, Int.reduceLE, Int.reduceNeg, Int.reduceAdd, Int.reduceSub, Int.reduceMul, Int.reduceToNat, Int.reduceEq, Int.reduceNe, Int.cast_ofNat_Int, Int.natCast_one, Int.natCast_zero, Int.natCast_add, reduceCtorEq, t0, hi]
    by_cases h1 : 1 ≤ l.length
    · simp only [go_sem, ↓reduceIte, Nat.reduceEqDiff, Nat.reduceAdd, Nat.reduceMul, Nat.reduceLT, Nat.reduceLeDiff, Int.reduceLT, Int.reduceLE, Int.reduceNeg, Int.reduceAdd, Int.reduceSub, Int.reduceMul, Int.reduceToNat, Int.reduceEq, Int.reduceNe, Int.cast_ofNat_Int, Int.natCast_one, Int.natCast_zero, Int.natCast_add, reduceCtorEq, t0, show (1 : Int) ≤ (l.length : Int) by omega]
      refine congrArg _ ?_
      simp only [nameOk, hv, hd (by omega), h1, Bool.not_false, Bool.and_true, decide_true, Bool.true_and]
      exact decide_eq_decide.2 (by omega)
    · simp only [go_sem, ↓reduceIte, Nat.reduceEqDiff, Nat.reduceAdd, Nat.reduceMul, Nat.reduceLT, Nat.reduceLeDiff, Int.reduceLT, Int.reduceLE, Int.reduceNeg, Int.reduceAdd, Int.reduceSub, Int.reduceMul, Int.reduceToNat, Int.reduceEq, Int.reduceNe, Int.cast_ofNat_Int, Int.natCast_one, Int.natCast_zero, Int.natCast_add, reduceCtorEq, t0, show ¬ (1 : Int) ≤ (l.length : Int) by omega]
      simp only [nameOk, h1, decide_false, Bool.false_and]
set_option maxHeartbeats 1000000 in
theorem f54_ok (X : Ext) (l : List UInt8) (hs : l.length ≤ 140737488351232) (σ : Heap) : CW Tryd.prog X 54 [.string (str l)] σ fun v σ' => v = .bool (nameOk l) ∧ σ' = σ := by
  refine cw_in Tryd.func54 rfl Tryd.ntmps54 (rs := [.tmp 2]) rfl (by kernel_rfl) (by exact Nat.le_of_ble_eq_true rfl) ?_
  simp only [go_sem, ↓reduceIte, Nat.reduceEqDiff, Nat.reduceAdd, Nat.reduceMul, Nat.reduceLT, Nat.reduceLeDiff, Int.reduceLT, Int.reduceLE, Int.reduceNeg, Int.reduceAdd, Int.reduceSub, Int.reduceMul, Int.reduceToNat, Int.reduceEq, Int.reduceNe, Int.cast_ofNat_Int, Int.natCast_one, Int.natCast_zero, Int.natCast_add, reduceCtorEq]
  refine LW_run (fun k T σ' => ∃ i : Nat, i + k = l.length ∧ σ' = σ ∧ T 0 = .string (str l) ∧ T 3 = .int .i64 i ∧ (l.take i).all nbB = true) l.length ⟨0, by simp, rfl, rfl, rfl, by simp⟩ ?_
  rintro k T _ ⟨i, hk, rfl, t0, t3, hv⟩
  simp only [go_sem, ↓reduceIte, Nat.reduceEqDiff, Nat.reduceAdd, Nat.reduceMul, Nat.reduceLT, Nat.reduceLeDiff, Int.reduceLT, Int.reduceLE, Int.reduceNeg, Int.reduceAdd, Int.reduceSub, Int.reduceMul, Int.reduceToNat, Int.reduceEq, Int.reduceNe, Int.cast_ofNat_Int, Int.natCast_one, Int.natCast_zero, Int.natCast_add, reduceCtorEq, t0, t3]
  refine fork_dec (fun _ => ?_) (fun _ => ?_)
  · rename_i hi
    have hw : IntKind.i64.wrap ((i : Int) + 1) = (i : Int) + 1 := wrap64 (by omega)
    obtain ⟨b, hb⟩ : ∃ b, l[i]? = some b := ⟨_, List.getElem?_eq_getElem (by omega)⟩
    have hbb := UInt8.toNat_lt b
    simp only [go_sem, ↓reduceIte, Nat.reduceEqDiff, Nat.reduceAdd, Nat.reduceMul, Nat.reduceLT, Nat.reduceLeDiff, Int.reduceLT, Int.reduceLE, Int.reduceNeg, Int.reduceAdd, Int.reduceSub, Int.reduceMul, Int.reduceToNat, Int.reduceEq, Int.reduceNe, Int.cast_ofNat_Int, Int.natCast_one, Int.natCast_zero, Int.natCast_add, reduceCtorEq, t0, t3, hi, hb]
    refine (f84_ok X _ (by omega) _).mono ?_
    rintro _ _ ⟨rfl, rfl⟩
    cases hn : nb (b.toNat : Int) with
    | false =>
      simp only [go_sem, ↓reduceIte, Nat.reduceEqDiff, Nat.reduceAdd, Nat.reduceMul, Nat.reduceLT, Nat.reduceLeDiff, Int.reduceLT, Int.reduceLE, Int.reduceNeg, Int.reduceAdd, Int.reduceSub, Int.reduceMul, Int.reduceToNat, Int.reduceEq, Int.reduceNe, Int.cast_ofNat_Int, Int.natCast_one, Int.natCast_zero, Int.natCast_add, reduceCtorEq, hn]
      simp only [nameOk, all_at hb (show nbB b = false from hn), Bool.false_and, Bool.and_false]
    | true =>
      simp only [go_sem, ↓reduceIte, Nat.reduceEqDiff, Nat.reduceAdd, Nat.reduceMul, Nat.reduceLT, Nat.reduceLeDiff, Int.reduceLT, Int.reduceLE, Int.reduceNeg, Int.reduceAdd, Int.reduceSub, Int.reduceMul, Int.reduceToNat, Int.reduceEq, Int.reduceNe, Int.cast_ofNat_Int, Int.natCast_one, Int.natCast_zero, Int.natCast_add, reduceCtorEq, t0, t3, hn, hw]
      refine ⟨k - 1, by omega, i + 1, by omega, ?_⟩
      (repeat' (first | exact rfl | apply And.intro))
      exact take_all hb hv (show nbB b = true from hn)
  · rename_i hi
    have e : i = l.length := by omega
    subst e
    rw [List.take_length] at hv
    simp only [go_sem, ↓reduceIte, Nat.reduceEqDiff, Nat.reduceAdd, Nat.reduceMul, Nat.reduceLT, Nat.reduceLeDiff, Int.reduceLT, Int.reduceLE, Int.reduceNeg, Int.reduceAdd, Int.reduceSub, Int.reduceMul, Int.reduceToNat, Int.reduceEq, Int.reduceNe, Int.cast_ofNat_Int, Int.natCast_one, Int.natCast_zero, Int.natCast_add, reduceCtorEq, t0, t3, hi]
    refine (f22_ok X _ 1 16 _).mono ?_
    rintro _ _ ⟨rfl, rfl⟩
    by_cases h1 : 1 ≤ l.length ∧ l.length ≤ 16
    · obtain ⟨b, hb⟩ : ∃ b, l[0]? = some b := ⟨_, List.getElem?_eq_getElem (by omega)⟩
      have hbb := UInt8.toNat_lt b
      simp only [go_sem, ↓reduceIte, Nat.reduceEqDiff, Nat.reduceAdd, Nat.reduceMul, Nat.reduceLT, Nat.reduceLeDiff, Int.reduceLT, Int.reduceLE, Int.reduceNeg, Int.reduceAdd, Int.reduceSub, Int.reduceMul, Int.reduceToNat, Int.reduceEq, Int.reduceNe, Int.cast_ofNat_Int, Int.natCast_one, Int.natCast_zero, Int.natCast_add, reduceCtorEq, t0, show (1 : Int) ≤ (l.length : Int) ∧ (l.length : Int) ≤ 16 by omega, hb, wrap64 (show -9223372036854775808 ≤ (b.toNat : Int) ∧ (b.toNat : Int) ≤ 9223372036854775807 by omega)]
      refine (f22_ok X _ 48 57 _).mono ?_
      rintro _ _ ⟨rfl, rfl⟩
      simp only [go_sem, ↓reduceIte, Nat.reduceEqDiff, Nat.reduceAdd, Nat.reduceMul, Nat.reduceLT, Nat.reduceLeDiff, Int.reduceLT, Int.reduceLE, Int.reduceNeg, Int.reduceAdd, Int.reduceSub, Int.reduceMul, Int.reduceToNat, Int.reduceEq, Int.reduceNe, Int.cast_ofNat_Int, Int.natCast_one, Int.natCast_zero, Int.natCast_add, reduceCtorEq, show (1 : Int) ≤ (l.length : Int) ∧ (l.length : Int) ≤ 16 by omega]
      refine congrArg _ ?_
      have hh : l.head?.any digB = dig (b.toNat : Int) := by
        rw [List.head?_eq_getElem?, hb]
        rfl
      simp only [nameOk, hv, hh, h1, decide_true, Bool.true_and, dig]
    · simp only [go_sem, ↓reduceIte, Nat.reduceEqDiff, Nat.reduceAdd, Nat.reduceMul, Nat.reduceLT, Nat.reduceLeDiff, Int.reduceLT, Int.reduceLE, Int.reduceNeg, Int.reduceAdd, Int.reduceSub, Int.reduceMul, Int.reduceToNat, Int.reduceEq, Int.reduceNe, Int.cast_ofNat_Int, Int.natCast_one, Int.natCast_zero, Int.natCast_add, reduceCtorEq, t0, show ¬ ((1 : Int) ≤ (l.length : Int) ∧ (l.length : Int) ≤ 16) by omega]
      refine congrArg _ (Eq.symm ?_)
      unfold nameOk
      by_cases h2 : 1 ≤ l.length
      · rw [decide_eq_false (show ¬ l.length ≤ 16 by omega)]
        simp
      · rw [decide_eq_false h2]
        rfl
end Go.Proofs.YtkgdkommahgakaaDoor.Abs
