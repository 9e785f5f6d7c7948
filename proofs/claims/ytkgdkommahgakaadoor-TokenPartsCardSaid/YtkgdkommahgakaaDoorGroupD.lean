/- Part GroupD of the proof: an abstract machine for the program's calls, and what functions do on it. It has no conditions. -/
import Derived.Test.YtkgdkommahgakaaDoorGroupT
import Derived.Lib.Strings
import Derived.Test.YtkgdkommahgakaaDoorGroupB
import Derived.Lib.Slices
import Derived.Lib.Walk
import Derived.Lib.Bytealg
namespace Go.Proofs.YtkgdkommahgakaaDoor.Abs
open Go Go.RowKit
set_option linter.unusedVariables false
set_option linter.unusedSimpArgs false
set_option maxRecDepth 100000

theorem quiet_pre {P : Program} {o : Oper} {ops : Array Oper} {k : Nat} {T : Tm} {σ σ' : Heap} (h : σ <+: σ') : Quiet P o ops k T σ σ' := .inr (.inl (.inl h))
theorem quiet_late {P : Program} {o : Oper} {ops : Array Oper} {k : Nat} {T : Tm} {σ σ' : Heap} (h : lateOk ops = true) (la lb : List Tmp) (h1 : (List.range ops.size).filterMap (lateLd ops) = la) (h2 : (List.range ops.size).filterMap (lateSt ops) = lb) (h3 : ∀ a ∈ la, ∀ b ∈ lb, ptrOf (T a) ≠ ptrOf (T b)) : Quiet P o ops k T σ σ' :=
  .inr (.inr ⟨h, by rw [h1, h2]; exact h3⟩)
/-! ### bytes -/
def dig (c : Int) : Bool := decide (48 ≤ c ∧ c ≤ 57)
def nb (c : Int) : Bool := decide ((97 ≤ c ∧ c ≤ 122) ∨ (65 ≤ c ∧ c ≤ 90) ∨ (48 ≤ c ∧ c ≤ 57) ∨ c = 46 ∨ c = 95 ∨ c = 36)
theorem f86_ok (X : Ext) (c : Int) (σ : Heap) : CW Tryd.prog X 86 [.int .u8 c] σ fun v σ' => v = .bool (dig c) ∧ σ' = σ := by
  refine cw_in Tryd.func86 rfl Tryd.ntmps86 (rs := [.tmp 2]) rfl (by kernel_rfl) (by exact Nat.le_of_ble_eq_true rfl) ?_
  simp only [go_sem, ↓reduceIte, Nat.reduceEqDiff, Nat.reduceAdd, Nat.reduceMul, Nat.reduceLT, Nat.reduceLeDiff, Int.reduceLT, Int.reduceLE, Int.reduceNeg, Int.reduceAdd, Int.reduceSub, Int.reduceMul, Int.reduceToNat, Int.reduceEq, Int.reduceNe, Int.cast_ofNat_Int, Int.natCast_one, Int.natCast_zero, Int.natCast_add, reduceCtorEq]
  repeat' (refine fork_dec (fun _ => ?_) (fun _ => ?_) <;> simp only [go_sem, ↓reduceIte, Nat.reduceEqDiff, Nat.reduceAdd, Nat.reduceMul, Nat.reduceLT, Nat.reduceLeDiff, Int.reduceLT, Int.reduceLE, Int.reduceNeg, Int.reduceAdd, Int.reduceSub, Int.reduceMul, Int.reduceToNat, Int.reduceEq, Int.reduceNe, Int.cast_ofNat_Int, Int.natCast_one, Int.natCast_zero, Int.natCast_add, reduceCtorEq, *])
  · simp only [dig, *, true_and]
  · simp only [dig, *, false_and, decide_false]
theorem f22_ok (X : Ext) (n lo hi : Int) (σ : Heap) : CW Tryd.prog X 22 [.int .i64 n, .int .i64 lo, .int .i64 hi] σ fun v σ' => v = .bool (decide (lo ≤ n ∧ n ≤ hi)) ∧ σ' = σ := by
  refine cw_in Tryd.func22 rfl Tryd.ntmps22 (rs := [.tmp 6]) rfl (by kernel_rfl) (by exact Nat.le_of_ble_eq_true rfl) ?_
  simp only [go_sem, ↓reduceIte, Nat.reduceEqDiff, Nat.reduceAdd, Nat.reduceMul, Nat.reduceLT, Nat.reduceLeDiff, Int.reduceLT, Int.reduceLE, Int.reduceNeg, Int.reduceAdd, Int.reduceSub, Int.reduceMul, Int.reduceToNat, Int.reduceEq, Int.reduceNe, Int.cast_ofNat_Int, Int.natCast_one, Int.natCast_zero, Int.natCast_add, reduceCtorEq]
  repeat' (refine fork_dec (fun _ => ?_) (fun _ => ?_) <;> simp only [go_sem, ↓reduceIte, Nat.reduceEqDiff, Nat.reduceAdd, Nat.reduceMul, Nat.reduceLT, Nat.reduceLeDiff, Int.reduceLT, Int.reduceLE, Int.reduceNeg, Int.reduceAdd, Int.reduceSub, Int.reduceMul, Int.reduceToNat, Int.reduceEq, Int.reduceNe, Int.cast_ofNat_Int, Int.natCast_one, Int.natCast_zero, Int.natCast_add, reduceCtorEq, *])
set_option maxHeartbeats 1000000 in
theorem f85_ok (X : Ext) (c : Int) (σ : Heap) : CW Tryd.prog X 85 [.int .u8 c] σ fun v σ' => v = .bool (nb c) ∧ σ' = σ := by
  refine cw_in Tryd.func85 rfl Tryd.ntmps85 (rs := [.tmp 2]) rfl (by kernel_rfl) (by exact Nat.le_of_ble_eq_true rfl) ?_
  simp only [go_sem, ↓reduceIte, Nat.reduceEqDiff, Nat.reduceAdd, Nat.reduceMul, Nat.reduceLT, Nat.reduceLeDiff, Int.reduceLT, Int.reduceLE, Int.reduceNeg, Int.reduceAdd, Int.reduceSub, Int.reduceMul, Int.reduceToNat, Int.reduceEq, Int.reduceNe, Int.cast_ofNat_Int, Int.natCast_one, Int.natCast_zero, Int.natCast_add, reduceCtorEq]
  repeat' (first | (refine fork_dec (fun _ => ?_) (fun _ => ?_) <;> simp only [go_sem, ↓reduceIte, Nat.reduceEqDiff, Nat.reduceAdd, Nat.reduceMul, Nat.reduceLT, Nat.reduceLeDiff, Int.reduceLT, Int.reduceLE, Int.reduceNeg, Int.reduceAdd, Int.reduceSub, Int.reduceMul, Int.reduceToNat, Int.reduceEq, Int.reduceNe, Int.cast_ofNat_Int, Int.natCast_one, Int.natCast_zero, Int.natCast_add, reduceCtorEq, *]) | (refine (f86_ok X c _).mono ?_; rintro _ _ ⟨rfl, rfl⟩; simp only [go_sem, ↓reduceIte, Nat.reduceEqDiff, Nat.reduceAdd, Nat.reduceMul, Nat.reduceLT, Nat.reduceLeDiff, Int.reduceLT, Int.reduceLE, Int.reduceNeg, Int.reduceAdd, Int.reduceSub, Int.reduceMul, Int.reduceToNat, Int.reduceEq, Int.reduceNe, Int.cast_ofNat_Int, Int.natCast_one, Int.natCast_zero, Int.natCast_add, reduceCtorEq, dig, *]) | (refine fork_intro (fun _ => ?_) (fun _ => ?_) <;> simp only [go_sem, ↓reduceIte, Nat.reduceEqDiff, Nat.reduceAdd, Nat.reduceMul, Nat.reduceLT, Nat.reduceLeDiff, Int.reduceLT, Int.reduceLE, Int.reduceNeg, Int.reduceAdd, Int.reduceSub, Int.reduceMul, Int.reduceToNat, Int.reduceEq, Int.reduceNe, Int.cast_ofNat_Int, Int.natCast_one, Int.natCast_zero, Int.natCast_add, reduceCtorEq, *]))
  all_goals refine congrArg _ ?_
  all_goals try simp only [decide_eq_true_eq, decide_eq_false_iff_not] at *
  all_goals first | exact (decide_eq_true (by omega)).symm | exact (decide_eq_false (by omega)).symm | exact decide_eq_decide.2 (by omega)
set_option maxHeartbeats 1000000 in
theorem f84_ok (X : Ext) (c : Int) (hc : 0 ≤ c ∧ c ≤ 255) (σ : Heap) : CW Tryd.prog X 84 [.int .u8 c] σ fun v σ' => v = .bool (nb c) ∧ σ' = σ := by
  refine cw_in Tryd.func84 rfl Tryd.ntmps84 (rs := [.tmp 2]) rfl (by kernel_rfl) (by exact Nat.le_of_ble_eq_true rfl) ?_
  have hw : IntKind.i64.wrap c = c := wrap64 (by omega)
  clear hc
  simp only [go_sem, ↓reduceIte, Nat.reduceEqDiff, Nat.reduceAdd, Nat.reduceMul, Nat.reduceLT, Nat.reduceLeDiff, Int.reduceLT, Int.reduceLE, Int.reduceNeg, Int.reduceAdd, Int.reduceSub, Int.reduceMul, Int.reduceToNat, Int.reduceEq, Int.reduceNe, Int.cast_ofNat_Int, Int.natCast_one, Int.natCast_zero, Int.natCast_add, reduceCtorEq, hw]
  repeat' (first | (refine (f22_ok X c _ _ _).mono ?_; rintro _ _ ⟨rfl, rfl⟩; simp only [go_sem, ↓reduceIte, Nat.reduceEqDiff, Nat.reduceAdd, Nat.reduceMul, Nat.reduceLT, Nat.reduceLeDiff, Int.reduceLT, Int.reduceLE, Int.reduceNeg, Int.reduceAdd, Int.reduceSub, Int.reduceMul, Int.reduceToNat, Int.reduceEq, Int.reduceNe, Int.cast_ofNat_Int, Int.natCast_one, Int.natCast_zero, Int.natCast_add, reduceCtorEq, *]) | (refine fork_dec (fun _ => ?_) (fun _ => ?_) <;> simp only [go_sem, ↓reduceIte, Nat.reduceEqDiff, Nat.reduceAdd, Nat.reduceMul, Nat.reduceLT, Nat.reduceLeDiff, Int.reduceLT, Int.reduceLE, Int.reduceNeg, Int.reduceAdd, Int.reduceSub, Int.reduceMul, Int.reduceToNat, Int.reduceEq, Int.reduceNe, Int.cast_ofNat_Int, Int.natCast_one, Int.natCast_zero, Int.natCast_add, reduceCtorEq, *]) | (refine fork_intro (fun _ => ?_) (fun _ => ?_) <;> simp only [go_sem, ↓reduceIte, Nat.reduceEqDiff, Nat.reduceAdd, Nat.reduceMul, Nat.reduceLT, Nat.reduceLeDiff, Int.reduceLT, Int.reduceLE, Int.reduceNeg, Int.reduceAdd, Int.reduceSub, Int.reduceMul, Int.reduceToNat, Int.reduceEq, Int.reduceNe, Int.cast_ofNat_Int, Int.natCast_one, Int.natCast_zero, Int.natCast_add, reduceCtorEq, *]))
  all_goals refine congrArg _ ?_
  all_goals try simp only [decide_eq_true_eq, decide_eq_false_iff_not] at *
  all_goals first | exact (decide_eq_true (by omega)).symm | exact (decide_eq_false (by omega)).symm | exact decide_eq_decide.2 (by omega)
set_option maxHeartbeats 1000000 in
theorem f20_ok (X : Ext) (a b : Int) (σ : Heap) : CW Tryd.prog X 20 [.int .i64 a, .int .i64 b] σ fun v σ' => v = .agg [.int .i64 a, .int .i64 b].toArray ∧ σ <+: σ' := by
  refine cw_in Tryd.func20 rfl Tryd.ntmps20 (rs := [.cell 4 26]) rfl (by kernel_rfl) (by exact Nat.le_of_ble_eq_true rfl) ?_
  simp only [go_sem, ↓reduceIte, Nat.reduceEqDiff, Nat.reduceAdd, Nat.reduceMul, Nat.reduceLT, Nat.reduceLeDiff, Int.reduceLT, Int.reduceLE, Int.reduceNeg, Int.reduceAdd, Int.reduceSub, Int.reduceMul, Int.reduceToNat, Int.reduceEq, Int.reduceNe, Int.cast_ofNat_Int, Int.natCast_one, Int.natCast_zero, Int.natCast_add, reduceCtorEq]
  exact List.prefix_append _ _

/-! ### strings, as lists of bytes -/
abbrev str (l : List UInt8) : ByteArray := ⟨l.toArray⟩
theorem str_data (s : ByteArray) : s = str s.data.toList := (Lib.mk_data s).symm
theorem str_size (l : List UInt8) : (str l).size = l.length := by simp [ByteArray.size]
theorem str_at (l : List UInt8) (i : Nat) : (str l).data[i]? = l[i]? := by simp
theorem str_ext (l : List UInt8) (a b : Nat) : (str l).extract a b = str ((l.drop a).take (b - a)) := by rw [Lib.extract_eq]
theorem str_app (a b : List UInt8) : str a ++ str b = str (a ++ b) := by
  apply ByteArray.ext
  simp
theorem str_eq (a b : List UInt8) : (str a = str b) = (a = b) := by
  apply propext
  constructor
  · intro h
    have := congrArg (fun s : ByteArray => s.data.toList) h
    simpa using this
  · rintro rfl; rfl
theorem sadd {P : Program} {t : TypeId} {a b : List UInt8} (h : a.length + b.length ≤ 9223372036854775807) : abin P .add t (.string (str a)) (.string (str b)) = some (.string (str (a ++ b))) := by
  rw [s_add (by rw [str_size, str_size]; omega), str_app]
attribute [go_sem] str_size List.getElem?_toArray str_ext str_app str_eq
def nbB (b : UInt8) : Bool := nb (b.toNat : Int)
def digB (b : UInt8) : Bool := dig (b.toNat : Int)
/-- A name. -/
def nameOk (l : List UInt8) : Bool := decide (1 ≤ l.length) && (decide (l.length ≤ 16) && (l.all nbB && !(l.head?.any digB)))
theorem take_all {α : Type} {p : α → Bool} {l : List α} {i : Nat} {b : α} (h : l[i]? = some b) (hv : (l.take i).all p = true) (hb : p b = true) : (l.take (i + 1)).all p = true := by
  rw [List.take_add_one, h, List.all_append, hv]
  simp [hb]
theorem all_at {α : Type} {p : α → Bool} {l : List α} {i : Nat} {b : α} (h : l[i]? = some b) (hb : p b = false) : l.all p = false := by
  rw [List.all_eq_false]
  exact ⟨b, List.mem_of_getElem? h, by simp [hb]⟩

set_option maxHeartbeats 1000000 in
theorem f55_ok (X : Ext) (l : List UInt8) (hs : l.length ≤ 140737488351232) (σ : Heap) : CW Tryd.prog X 55 [.string (str l)] σ fun v σ' => v = .bool (nameOk l) ∧ σ' = σ := by
  refine cw_in Tryd.func55 rfl Tryd.ntmps55 (rs := [.tmp 2]) rfl (by kernel_rfl) (by exact Nat.le_of_ble_eq_true rfl) ?_
  simp only [go_sem, ↓reduceIte, Nat.reduceEqDiff, Nat.reduceAdd, Nat.reduceMul, Nat.reduceLT, Nat.reduceLeDiff, Int.reduceLT, Int.reduceLE, Int.reduceNeg, Int.reduceAdd, Int.reduceSub, Int.reduceMul, Int.reduceToNat, Int.reduceEq, Int.reduceNe, Int.cast_ofNat_Int, Int.natCast_one, Int.natCast_zero, Int.natCast_add, reduceCtorEq]
  refine LW_run (fun k T σ' => ∃ i : Nat, i + k = l.length ∧ σ' = σ ∧ T 0 = .string (str l) ∧ T 5 = .int .i64 l.length ∧ T 6 = .int .i64 i ∧ (l.take i).all nbB = true ∧ (0 < i → l.head?.any digB = false)) l.length ⟨0, by simp, rfl, rfl, rfl, rfl, by simp, fun h => by omega⟩ ?_
  rintro k T _ ⟨i, hk, rfl, t0, t5, t6, hv, hd⟩
  simp only [go_sem, ↓reduceIte, Nat.reduceEqDiff, Nat.reduceAdd, Nat.reduceMul, Nat.reduceLT, Nat.reduceLeDiff, Int.reduceLT, Int.reduceLE, Int.reduceNeg, Int.reduceAdd, Int.reduceSub, Int.reduceMul, Int.reduceToNat, Int.reduceEq, Int.reduceNe, Int.cast_ofNat_Int, Int.natCast_one, Int.natCast_zero, Int.natCast_add, reduceCtorEq, t0, t5, t6]
  refine fork_dec (fun _ => ?_) (fun _ => ?_)
  · rename_i hi
    have hw : IntKind.i64.wrap ((i : Int) + 1) = (i : Int) + 1 := wrap64 (by omega)
    obtain ⟨b, hb⟩ : ∃ b, l[i]? = some b := ⟨_, List.getElem?_eq_getElem (by omega)⟩
    simp only [go_sem, ↓reduceIte, Nat.reduceEqDiff, Nat.reduceAdd, Nat.reduceMul, Nat.reduceLT, Nat.reduceLeDiff, Int.reduceLT, Int.reduceLE, Int.reduceNeg, Int.reduceAdd, Int.reduceSub, Int.reduceMul, Int.reduceToNat, Int.reduceEq, Int.reduceNe, Int.cast_ofNat_Int, Int.natCast_one, Int.natCast_zero, Int.natCast_add, reduceCtorEq, t0, t5, t6, hi, hb]
    refine (f85_ok X _ _).mono ?_
    rintro _ _ ⟨rfl, rfl⟩
    cases hn : nb (b.toNat : Int) with
    | false =>
      simp only [go_sem, ↓reduceIte, Nat.reduceEqDiff, Nat.reduceAdd, Nat.reduceMul, Nat.reduceLT, Nat.reduceLeDiff, Int.reduceLT, Int.reduceLE, Int.reduceNeg, Int.reduceAdd, Int.reduceSub, Int.reduceMul, Int.reduceToNat, Int.reduceEq, Int.reduceNe, Int.cast_ofNat_Int, Int.natCast_one, Int.natCast_zero, Int.natCast_add, reduceCtorEq, hn]
      simp only [nameOk, all_at hb (show nbB b = false from hn), Bool.false_and, Bool.and_false]
    | true =>
      have hv2 := take_all hb hv (show nbB b = true from hn)
      simp only [go_sem, ↓reduceIte, Nat.reduceEqDiff, Nat.reduceAdd, Nat.reduceMul, Nat.reduceLT, Nat.reduceLeDiff, Int.reduceLT, Int.reduceLE, Int.reduceNeg, Int.reduceAdd, Int.reduceSub, Int.reduceMul, Int.reduceToNat, Int.reduceEq, Int.reduceNe, Int.cast_ofNat_Int, Int.natCast_one, Int.natCast_zero, Int.natCast_add, reduceCtorEq, t0, t5, t6, hn]
      by_cases h0 : i = 0
      · subst h0
        simp only [go_sem, ↓reduceIte, Nat.reduceEqDiff, Nat.reduceAdd, Nat.reduceMul, Nat.reduceLT, Nat.reduceLeDiff, Int.reduceLT, Int.reduceLE, Int.reduceNeg, Int.reduceAdd, Int.reduceSub, Int.reduceMul, Int.reduceToNat, Int.reduceEq, Int.reduceNe, Int.cast_ofNat_Int, Int.natCast_one, Int.natCast_zero, Int.natCast_add, reduceCtorEq, t0, t5, t6, hi, hb]
        refine (f86_ok X _ _).mono ?_
        rintro _ _ ⟨rfl, rfl⟩
        have hh : l.head?.any digB = dig (b.toNat : Int) := by
          rw [List.head?_eq_getElem?, hb]
          rfl
        cases hd0 : dig (b.toNat : Int) with
        | true =>
          simp only [go_sem, ↓reduceIte, Nat.reduceEqDiff, Nat.reduceAdd, Nat.reduceMul, Nat.reduceLT, Nat.reduceLeDiff, Int.reduceLT, Int.reduceLE, Int.reduceNeg, Int.reduceAdd, Int.reduceSub, Int.reduceMul, Int.reduceToNat, Int.reduceEq, Int.reduceNe, Int.cast_ofNat_Int, Int.natCast_one, Int.natCast_zero, Int.natCast_add, reduceCtorEq, hd0]
          simp only [nameOk, hh, hd0, Bool.not_true, Bool.and_false]
        | false =>
          simp only [go_sem, ↓reduceIte, Nat.reduceEqDiff, Nat.reduceAdd, Nat.reduceMul, Nat.reduceLT, Nat.reduceLeDiff, Int.reduceLT, Int.reduceLE, Int.reduceNeg, Int.reduceAdd, Int.reduceSub, Int.reduceMul, Int.reduceToNat, Int.reduceEq, Int.reduceNe, Int.cast_ofNat_Int, Int.natCast_one, Int.natCast_zero, Int.natCast_add, reduceCtorEq, t0, t5, t6, hd0, hw]
          refine ⟨k - 1, by omega, 1, by omega, ?_⟩
          (repeat' (first | exact rfl | apply And.intro))
          · exact hv2
          · exact fun _ => hh.trans hd0
      · simp only [go_sem, ↓reduceIte, Nat.reduceEqDiff, Nat.reduceAdd, Nat.reduceMul, Nat.reduceLT, Nat.reduceLeDiff, Int.reduceLT, Int.reduceLE, Int.reduceNeg, Int.reduceAdd, Int.reduceSub, Int.reduceMul, Int.reduceToNat, Int.reduceEq, Int.reduceNe, Int.cast_ofNat_Int, Int.natCast_one, Int.natCast_zero, Int.natCast_add, reduceCtorEq, t0, t5, t6, show ¬ (i : Int) = 0 by omega, hw]
        refine ⟨k - 1, by omega, i + 1, by omega, ?_⟩
        (repeat' (first | exact rfl | apply And.intro))
        · exact hv2
        · exact fun _ => hd (by omega)
  · rename_i hi
    have e : i = l.length := by omega
    subst e
    rw [List.take_length] at hv
    simp only [go_sem, ↓reduceIte, Nat.reduceEqDiff, Nat.reduceAdd, Nat.reduceMul, Nat.reduceLT, Nat.reduceLeDiff, Int.reduceLT, Int.reduceLE, Int.reduceNeg, Int.reduceAdd, Int.reduceSub, Int.reduceMul, Int.reduceToNat, Int.reduceEq, Int.reduceNe, Int.cast_ofNat_Int, Int.natCast_one, Int.natCast_zero, Int.natCast_add, reduceCtorEq, t0, hi]
    by_cases h1 : 1 ≤ l.length
    · simp only [go_sem, ↓reduceIte, Nat.reduceEqDiff, Nat.reduceAdd, Nat.reduceMul, Nat.reduceLT, Nat.reduceLeDiff, Int.reduceLT, Int.reduceLE, Int.reduceNeg, Int.reduceAdd, Int.reduceSub, Int.reduceMul, Int.reduceToNat, Int.reduceEq, Int.reduceNe, Int.cast_ofNat_Int, Int.natCast_one, Int.natCast_zero, Int.natCast_add, reduceCtorEq, t0, show (1 : Int) ≤ (l.length : Int) by omega]
      refine congrArg _ ?_
      simp only [nameOk, hv, hd (by omega), h1, Bool.not_false, Bool.and_true, decide_true, Bool.true_and]
      exact decide_eq_decide.2 (by omega)
    · simp only [go_sem, ↓reduceIte, Nat.reduceEqDiff, Nat.reduceAdd, Nat.reduceMul, Nat.reduceLT, Nat.reduceLeDiff, Int.reduceLT, Int.reduceLE, Int.reduceNeg, Int.reduceAdd, Int.reduceSub, Int.reduceMul, Int.reduceToNat, Int.reduceEq, Int.reduceNe, Int.cast_ofNat_Int, Int.natCast_one, Int.natCast_zero, Int.natCast_add, reduceCtorEq, t0, show ¬ (1 : Int) ≤ (l.length : Int) by omega]
      simp only [nameOk, h1, decide_false, Bool.false_and]
set_option maxHeartbeats 1000000 in
theorem f54_ok (X : Ext) (l : List UInt8) (hs : l.length ≤ 140737488351232) (σ : Heap) : CW Tryd.prog X 54 [.string (str l)] σ fun v σ' => v = .bool (nameOk l) ∧ σ' = σ := by
  refine cw_in Tryd.func54 rfl Tryd.ntmps54 (rs := [.tmp 2]) rfl (by kernel_rfl) (by exact Nat.le_of_ble_eq_true rfl) ?_
  simp only [go_sem, ↓reduceIte, Nat.reduceEqDiff, Nat.reduceAdd, Nat.reduceMul, Nat.reduceLT, Nat.reduceLeDiff, Int.reduceLT, Int.reduceLE, Int.reduceNeg, Int.reduceAdd, Int.reduceSub, Int.reduceMul, Int.reduceToNat, Int.reduceEq, Int.reduceNe, Int.cast_ofNat_Int, Int.natCast_one, Int.natCast_zero, Int.natCast_add, reduceCtorEq]
  refine LW_run (fun k T σ' => ∃ i : Nat, i + k = l.length ∧ σ' = σ ∧ T 0 = .string (str l) ∧ T 3 = .int .i64 i ∧ (l.take i).all nbB = true) l.length ⟨0, by simp, rfl, rfl, rfl, by simp⟩ ?_
  rintro k T _ ⟨i, hk, rfl, t0, t3, hv⟩
  simp only [go_sem, ↓reduceIte, Nat.reduceEqDiff, Nat.reduceAdd, Nat.reduceMul, Nat.reduceLT, Nat.reduceLeDiff, Int.reduceLT, Int.reduceLE, Int.reduceNeg, Int.reduceAdd, Int.reduceSub, Int.reduceMul, Int.reduceToNat, Int.reduceEq, Int.reduceNe, Int.cast_ofNat_Int, Int.natCast_one, Int.natCast_zero, Int.natCast_add, reduceCtorEq, t0, t3]
  refine fork_dec (fun _ => ?_) (fun _ => ?_)
  · rename_i hi
    have hw : IntKind.i64.wrap ((i : Int) + 1) = (i : Int) + 1 := wrap64 (by omega)
    obtain ⟨b, hb⟩ : ∃ b, l[i]? = some b := ⟨_, List.getElem?_eq_getElem (by omega)⟩
    have hbb := UInt8.toNat_lt b
    simp only [go_sem, ↓reduceIte, Nat.reduceEqDiff, Nat.reduceAdd, Nat.reduceMul, Nat.reduceLT, Nat.reduceLeDiff, Int.reduceLT, Int.reduceLE, Int.reduceNeg, Int.reduceAdd, Int.reduceSub, Int.reduceMul, Int.reduceToNat, Int.reduceEq, Int.reduceNe, Int.cast_ofNat_Int, Int.natCast_one, Int.natCast_zero, Int.natCast_add, reduceCtorEq, t0, t3, hi, hb]
    refine (f84_ok X _ (by omega) _).mono ?_
    rintro _ _ ⟨rfl, rfl⟩
    cases hn : nb (b.toNat : Int) with
    | false =>
      simp only [go_sem, ↓reduceIte, Nat.reduceEqDiff, Nat.reduceAdd, Nat.reduceMul, Nat.reduceLT, Nat.reduceLeDiff, Int.reduceLT, Int.reduceLE, Int.reduceNeg, Int.reduceAdd, Int.reduceSub, Int.reduceMul, Int.reduceToNat, Int.reduceEq, Int.reduceNe, Int.cast_ofNat_Int, Int.natCast_one, Int.natCast_zero, Int.natCast_add, reduceCtorEq, hn]
      simp only [nameOk, all_at hb (show nbB b = false from hn), Bool.false_and, Bool.and_false]
    | true =>
      simp only [go_sem, ↓reduceIte, Nat.reduceEqDiff, Nat.reduceAdd, Nat.reduceMul, Nat.reduceLT, Nat.reduceLeDiff, Int.reduceLT, Int.reduceLE, Int.reduceNeg, Int.reduceAdd, Int.reduceSub, Int.reduceMul, Int.reduceToNat, Int.reduceEq, Int.reduceNe, Int.cast_ofNat_Int, Int.natCast_one, Int.natCast_zero, Int.natCast_add, reduceCtorEq, t0, t3, hn, hw]
      refine ⟨k - 1, by omega, i + 1, by omega, ?_⟩
      (repeat' (first | exact rfl | apply And.intro))
      exact take_all hb hv (show nbB b = true from hn)
  · rename_i hi
    have e : i = l.length := by omega
    subst e
    rw [List.take_length] at hv
    simp only [go_sem, ↓reduceIte, Nat.reduceEqDiff, Nat.reduceAdd, Nat.reduceMul, Nat.reduceLT, Nat.reduceLeDiff, Int.reduceLT, Int.reduceLE, Int.reduceNeg, Int.reduceAdd, Int.reduceSub, Int.reduceMul, Int.reduceToNat, Int.reduceEq, Int.reduceNe, Int.cast_ofNat_Int, Int.natCast_one, Int.natCast_zero, Int.natCast_add, reduceCtorEq, t0, t3, hi]
    refine (f22_ok X _ 1 16 _).mono ?_
    rintro _ _ ⟨rfl, rfl⟩
    by_cases h1 : 1 ≤ l.length ∧ l.length ≤ 16
    · obtain ⟨b, hb⟩ : ∃ b, l[0]? = some b := ⟨_, List.getElem?_eq_getElem (by omega)⟩
      have hbb := UInt8.toNat_lt b
      simp only [go_sem, ↓reduceIte, Nat.reduceEqDiff, Nat.reduceAdd, Nat.reduceMul, Nat.reduceLT, Nat.reduceLeDiff, Int.reduceLT, Int.reduceLE, Int.reduceNeg, Int.reduceAdd, Int.reduceSub, Int.reduceMul, Int.reduceToNat, Int.reduceEq, Int.reduceNe, Int.cast_ofNat_Int, Int.natCast_one, Int.natCast_zero, Int.natCast_add, reduceCtorEq, t0, show (1 : Int) ≤ (l.length : Int) ∧ (l.length : Int) ≤ 16 by omega, hb, wrap64 (show -9223372036854775808 ≤ (b.toNat : Int) ∧ (b.toNat : Int) ≤ 9223372036854775807 by omega)]
      refine (f22_ok X _ 48 57 _).mono ?_
      rintro _ _ ⟨rfl, rfl⟩
      simp only [go_sem, ↓reduceIte, Nat.reduceEqDiff, Nat.reduceAdd, Nat.reduceMul, Nat.reduceLT, Nat.reduceLeDiff, Int.reduceLT, Int.reduceLE, Int.reduceNeg, Int.reduceAdd, Int.reduceSub, Int.reduceMul, Int.reduceToNat, Int.reduceEq, Int.reduceNe, Int.cast_ofNat_Int, Int.natCast_one, Int.natCast_zero, Int.natCast_add, reduceCtorEq, show (1 : Int) ≤ (l.length : Int) ∧ (l.length : Int) ≤ 16 by omega]
      refine congrArg _ ?_
      have hh : l.head?.any digB = dig (b.toNat : Int) := by
        rw [List.head?_eq_getElem?, hb]
        rfl
      simp only [nameOk, hv, hh, h1, decide_true, Bool.true_and, dig]
    · simp only [go_sem, ↓reduceIte, Nat.reduceEqDiff, Nat.reduceAdd, Nat.reduceMul, Nat.reduceLT, Nat.reduceLeDiff, Int.reduceLT, Int.reduceLE, Int.reduceNeg, Int.reduceAdd, Int.reduceSub, Int.reduceMul, Int.reduceToNat, Int.reduceEq, Int.reduceNe, Int.cast_ofNat_Int, Int.natCast_one, Int.natCast_zero, Int.natCast_add, reduceCtorEq, t0, show ¬ ((1 : Int) ≤ (l.length : Int) ∧ (l.length : Int) ≤ 16) by omega]
      refine congrArg _ (Eq.symm ?_)
      unfold nameOk
      by_cases h2 : 1 ≤ l.length
      · rw [decide_eq_false (show ¬ l.length ≤ 16 by omega)]
        simp
      · rw [decide_eq_false h2]
        rfl
end Go.Proofs.YtkgdkommahgakaaDoor.Abs

namespace Go.Proofs.YtkgdkommahgakaaDoor.Abs
open Go Go.RowKit
set_option linter.unusedVariables false
set_option linter.unusedSimpArgs false
set_option maxRecDepth 100000

/-! ### lists of signs -/
def signs : List (List UInt8) := [[60, 60], [62, 62], [43], [45], [42], [47], [37], [38], [124], [94], [126], [40], [41], [44], [58], [61], [64]]
def ops : List (List UInt8) := [[43], [45], [42], [47], [37], [60, 60], [62, 62], [38], [94], [124]]
def vstr (l : List UInt8) : Value := .string (str l)
/-- The place of a string in a list, or -1. -/
def idx : List (List UInt8) → List UInt8 → Int
  | [], _ => -1
  | x :: L, s => if x = s then 0 else if idx L s = -1 then -1 else idx L s + 1
theorem idx_ge (L : List (List UInt8)) (s : List UInt8) : -1 ≤ idx L s := by
  induction L with
  | nil => exact Int.le_refl _
  | cons x L ih =>
    unfold idx
    split
    · omega
    · split <;> omega
theorem idx_hit : ∀ (L : List (List UInt8)) (s : List UInt8) (i : Nat), L[i]? = some s → s ∉ L.take i → idx L s = i
  | [], _, _, h, _ => by simp at h
  | x :: L, s, 0, h, _ => by
    simp only [List.getElem?_cons_zero, Option.some.injEq] at h
    simp [idx, h]
  | x :: L, s, i + 1, h, hn => by
    simp only [List.getElem?_cons_succ] at h
    simp only [List.take_succ_cons, List.mem_cons, not_or] at hn
    have := idx_hit L s i h hn.2
    rw [idx, if_neg (fun e => hn.1 e.symm), this, if_neg (by omega)]
    simp
theorem idx_miss : ∀ (L : List (List UInt8)) (s : List UInt8), s ∉ L → idx L s = -1
  | [], _, _ => rfl
  | x :: L, s, h => by
    simp only [List.mem_cons, not_or] at h
    rw [idx, if_neg (fun e => h.1 e.symm), idx_miss L s h.2, if_pos rfl]
theorem idx_mem {L : List (List UInt8)} {s : List UInt8} : 0 ≤ idx L s ↔ s ∈ L := by
  constructor
  · intro h
    by_cases hm : s ∈ L
    · exact hm
    · rw [idx_miss L s hm] at h; omega
  · intro h
    induction L with
    | nil => simp at h
    | cons x L ih =>
      unfold idx
      split
      · omega
      · rename_i hx
        have := ih (by simpa [Ne.symm (show x ≠ s from hx), eq_comm] using h)
        split <;> omega
theorem not_take {L : List (List UInt8)} {s x : List UInt8} {i : Nat} (h : L[i]? = some x) (hn : s ∉ L.take i) (hx : x ≠ s) : s ∉ L.take (i + 1) := by
  rw [List.take_add_one, h]
  simp only [List.mem_append, not_or]
  exact ⟨hn, by simpa using Ne.symm hx⟩

set_option maxHeartbeats 1000000 in
theorem f102_ok (X : Ext) (L : List (List UInt8)) (s : List UInt8) (n o c : Nat) (ow : Bool) (sz : Nat) (σ : Heap) (hl : look σ n = some ⟨L.map vstr, ow, sz⟩) (hL : L.length ≤ 1000000) :
    CW Tryd.prog X 102 [.slice (some ⟨n, 0, none⟩) L.length c, .string (str s)] σ fun v σ' => v = .int .i64 (idx L s) ∧ σ' = σ := by
  refine cw_in Tryd.func102 rfl Tryd.ntmps102 (rs := [.tmp 4]) rfl (by kernel_rfl) (by exact Nat.le_of_ble_eq_true rfl) ?_
  simp only [go_sem, ↓reduceIte, Nat.reduceEqDiff, Nat.reduceAdd, Nat.reduceMul, Nat.reduceLT, Nat.reduceLeDiff, Int.reduceLT, Int.reduceLE, Int.reduceNeg, Int.reduceAdd, Int.reduceSub, Int.reduceMul, Int.reduceToNat, Int.reduceEq, Int.reduceNe, Int.cast_ofNat_Int, Int.natCast_one, Int.natCast_zero, Int.natCast_add, reduceCtorEq]
  refine LW_run (fun k T σ' => ∃ i : Nat, i + k = L.length ∧ σ' = σ ∧ T 0 = .slice (some ⟨n, 0, none⟩) L.length c ∧ T 1 = .string (str s) ∧ T 7 = .int .i64 L.length ∧ T 8 = .int .i64 i ∧ s ∉ L.take i) L.length ⟨0, by simp, rfl, rfl, rfl, rfl, rfl, by simp⟩ ?_
  rintro k T _ ⟨i, hk, rfl, t0, t1, t7, t8, hv⟩
  simp only [go_sem, ↓reduceIte, Nat.reduceEqDiff, Nat.reduceAdd, Nat.reduceMul, Nat.reduceLT, Nat.reduceLeDiff, Int.reduceLT, Int.reduceLE, Int.reduceNeg, Int.reduceAdd, Int.reduceSub, Int.reduceMul, Int.reduceToNat, Int.reduceEq, Int.reduceNe, Int.cast_ofNat_Int, Int.natCast_one, Int.natCast_zero, Int.natCast_add, reduceCtorEq, t0, t1, t7, t8]
  refine fork_dec (fun _ => ?_) (fun _ => ?_)
  · rename_i hi
    have hw : IntKind.i64.wrap ((i : Int) + 1) = (i : Int) + 1 := wrap64 (by omega)
    obtain ⟨x, hx⟩ : ∃ x, L[i]? = some x := ⟨_, List.getElem?_eq_getElem (by omega)⟩
    simp only [go_sem, ↓reduceIte, Nat.reduceEqDiff, Nat.reduceAdd, Nat.reduceMul, Nat.reduceLT, Nat.reduceLeDiff, Int.reduceLT, Int.reduceLE, Int.reduceNeg, Int.reduceAdd, Int.reduceSub, Int.reduceMul, Int.reduceToNat, Int.reduceEq, Int.reduceNe, Int.cast_ofNat_Int, Int.natCast_one, Int.natCast_zero, Int.natCast_add, reduceCtorEq, t0, t1, t7, t8, hi, hl, List.getElem?_map, hx, vstr]
    refine fork_dec (fun _ => ?_) (fun _ => ?_)
    · rename_i he
      subst he
      simp only [go_sem, ↓reduceIte, Nat.reduceEqDiff, Nat.reduceAdd, Nat.reduceMul, Nat.reduceLT, Nat.reduceLeDiff, Int.reduceLT, Int.reduceLE, Int.reduceNeg, Int.reduceAdd, Int.reduceSub, Int.reduceMul, Int.reduceToNat, Int.reduceEq, Int.reduceNe, Int.cast_ofNat_Int, Int.natCast_one, Int.natCast_zero, Int.natCast_add, reduceCtorEq, t0, t1, t7, t8]
      rw [idx_hit L s i hx hv]
    · rename_i he
      simp only [go_sem, ↓reduceIte, Nat.reduceEqDiff, Nat.reduceAdd, Nat.reduceMul, Nat.reduceLT, Nat.reduceLeDiff, Int.reduceLT, Int.reduceLE, Int.reduceNeg, Int.reduceAdd, Int.reduceSub, Int.reduceMul, Int.reduceToNat, Int.reduceEq, Int.reduceNe, Int.cast_ofNat_Int, Int.natCast_one, Int.natCast_zero, Int.natCast_add, reduceCtorEq, t0, t1, t7, t8, hw, he]
      refine ⟨k - 1, by omega, i + 1, by omega, ?_⟩
      (repeat' (first | exact rfl | apply And.intro))
      exact not_take hx hv (Ne.symm he)
  · rename_i hi
    simp only [go_sem, ↓reduceIte, Nat.reduceEqDiff, Nat.reduceAdd, Nat.reduceMul, Nat.reduceLT, Nat.reduceLeDiff, Int.reduceLT, Int.reduceLE, Int.reduceNeg, Int.reduceAdd, Int.reduceSub, Int.reduceMul, Int.reduceToNat, Int.reduceEq, Int.reduceNe, Int.cast_ofNat_Int, Int.natCast_one, Int.natCast_zero, Int.natCast_add, reduceCtorEq, t0, hi]
    have e : i = L.length := by omega
    subst e
    rw [List.take_length] at hv
    rw [idx_miss L s hv]
set_option maxHeartbeats 1000000 in
theorem f75_ok (X : Ext) (s : List UInt8) (σ : Heap) : CW Tryd.prog X 75 [.string (str s)] σ fun v σ' => v = .bool (decide (s ∈ signs)) ∧ σ <+: σ' := by
  refine cw_in Tryd.func75 rfl Tryd.ntmps75 (rs := [.tmp 2]) rfl (by kernel_rfl) (by exact Nat.le_of_ble_eq_true rfl) ?_
  simp only [go_sem, ↓reduceIte, Nat.reduceEqDiff, Nat.reduceAdd, Nat.reduceMul, Nat.reduceLT, Nat.reduceLeDiff, Int.reduceLT, Int.reduceLE, Int.reduceNeg, Int.reduceAdd, Int.reduceSub, Int.reduceMul, Int.reduceToNat, Int.reduceEq, Int.reduceNe, Int.cast_ofNat_Int, Int.natCast_one, Int.natCast_zero, Int.natCast_add, reduceCtorEq]
  refine LW_run (fun k T σ' => ∃ i : Nat, i + k = 17 ∧ σ' = σ ++ [some ⟨signs.map vstr, true, 1⟩] ∧ T 0 = .string (str s) ∧ T 3 = .slice (some ⟨σ.length, 0, none⟩) 17 17 ∧ T 4 = .int .i64 i ∧ s ∉ signs.take i) 17 ⟨0, by simp, rfl, rfl, rfl, rfl, by simp⟩ ?_
  rintro k T _ ⟨i, hk, rfl, t0, t3, t4, hv⟩
  simp only [go_sem, ↓reduceIte, Nat.reduceEqDiff, Nat.reduceAdd, Nat.reduceMul, Nat.reduceLT, Nat.reduceLeDiff, Int.reduceLT, Int.reduceLE, Int.reduceNeg, Int.reduceAdd, Int.reduceSub, Int.reduceMul, Int.reduceToNat, Int.reduceEq, Int.reduceNe, Int.cast_ofNat_Int, Int.natCast_one, Int.natCast_zero, Int.natCast_add, reduceCtorEq, t0, t3, t4]
  refine fork_dec (fun _ => ?_) (fun _ => ?_)
  · rename_i hi
    have hw : IntKind.i64.wrap ((i : Int) + 1) = (i : Int) + 1 := wrap64 (by omega)
    obtain ⟨x, hx⟩ : ∃ x, signs[i]? = some x := ⟨_, List.getElem?_eq_getElem (show i < signs.length by show i < 17; omega)⟩
    simp only [go_sem, ↓reduceIte, Nat.reduceEqDiff, Nat.reduceAdd, Nat.reduceMul, Nat.reduceLT, Nat.reduceLeDiff, Int.reduceLT, Int.reduceLE, Int.reduceNeg, Int.reduceAdd, Int.reduceSub, Int.reduceMul, Int.reduceToNat, Int.reduceEq, Int.reduceNe, Int.cast_ofNat_Int, Int.natCast_one, Int.natCast_zero, Int.natCast_add, reduceCtorEq, t0, t3, t4, hi, List.getElem?_map, hx, vstr]
    refine fork_dec (fun _ => ?_) (fun _ => ?_)
    · rename_i he
      subst he
      simp only [go_sem, ↓reduceIte, Nat.reduceEqDiff, Nat.reduceAdd, Nat.reduceMul, Nat.reduceLT, Nat.reduceLeDiff, Int.reduceLT, Int.reduceLE, Int.reduceNeg, Int.reduceAdd, Int.reduceSub, Int.reduceMul, Int.reduceToNat, Int.reduceEq, Int.reduceNe, Int.cast_ofNat_Int, Int.natCast_one, Int.natCast_zero, Int.natCast_add, reduceCtorEq, t0, t3, t4]
      exact ⟨congrArg _ (decide_eq_true (List.mem_of_getElem? hx)).symm, List.prefix_append _ _⟩
    · rename_i he
      simp only [go_sem, ↓reduceIte, Nat.reduceEqDiff, Nat.reduceAdd, Nat.reduceMul, Nat.reduceLT, Nat.reduceLeDiff, Int.reduceLT, Int.reduceLE, Int.reduceNeg, Int.reduceAdd, Int.reduceSub, Int.reduceMul, Int.reduceToNat, Int.reduceEq, Int.reduceNe, Int.cast_ofNat_Int, Int.natCast_one, Int.natCast_zero, Int.natCast_add, reduceCtorEq, t0, t3, t4, hw, he]
      refine ⟨k - 1, by omega, i + 1, by omega, ?_⟩
      (repeat' (first | exact rfl | apply And.intro))
      exact not_take hx hv he
  · rename_i hi
    simp only [go_sem, ↓reduceIte, Nat.reduceEqDiff, Nat.reduceAdd, Nat.reduceMul, Nat.reduceLT, Nat.reduceLeDiff, Int.reduceLT, Int.reduceLE, Int.reduceNeg, Int.reduceAdd, Int.reduceSub, Int.reduceMul, Int.reduceToNat, Int.reduceEq, Int.reduceNe, Int.cast_ofNat_Int, Int.natCast_one, Int.natCast_zero, Int.natCast_add, reduceCtorEq, t0, hi]
    have e : i = 17 := by omega
    subst e
    exact ⟨congrArg _ (decide_eq_false (by simpa [signs] using hv)).symm, List.prefix_append _ _⟩

/-! ### numbers in decimal -/
def dec (n : Nat) : List UInt8 := if n < 10 then [UInt8.ofNat (48 + n)] else dec (n / 10) ++ [UInt8.ofNat (48 + n % 10)]
def num (n : Int) : List UInt8 := if n < 0 then 45 :: dec (-n).toNat else dec n.toNat
theorem dec_len : ∀ (k n : Nat), n < 10 ^ (k + 1) → (dec n).length ≤ k + 1
  | 0, n, h => by unfold dec; rw [if_pos (by simpa using h)]; simp
  | k + 1, n, h => by
    unfold dec
    split
    · simp
    · have := dec_len k (n / 10) (by rw [Nat.pow_succ] at h; omega)
      simp
      omega
theorem digs (n : Nat) (h : n < 10) : (([48, 49, 50, 51, 52, 53, 54, 55, 56, 57] : List UInt8).drop n).take 1 = [UInt8.ofNat (48 + n)] := by
  have : ∀ n : Fin 10, (([48, 49, 50, 51, 52, 53, 54, 55, 56, 57] : List UInt8).drop n.val).take 1 = [UInt8.ofNat (48 + n.val)] := by decide
  exact this ⟨n, h⟩
theorem wrapu {n : Int} (h : 0 ≤ n ∧ n < 18446744073709551616) : IntKind.u64.wrap n = n := by
  unfold IntKind.wrap
  simp only [IntKind.signed, IntKind.bits]
  have : n % 2 ^ 64 = n := Int.emod_eq_of_lt h.1 (by simpa using h.2)
  simpa using this
set_option maxHeartbeats 1000000 in
theorem f104_ok (X : Ext) : ∀ (k n : Nat), n < 10 ^ (k + 1) → k < 20 → n < 18446744073709551616 → ∀ σ : Heap, CW Tryd.prog X 104 [.int .u64 n] σ fun v σ' => v = .string (str (dec n)) ∧ σ' = σ := by
  intro k
  induction k with
  | zero =>
    intro n hn _ hb σ
    have h10 : n < 10 := by simpa using hn
    refine cw_in Tryd.func104 rfl Tryd.ntmps104 (rs := [.tmp 2]) rfl (by kernel_rfl) (by exact Nat.le_of_ble_eq_true rfl) ?_
    simp only [go_sem, ↓reduceIte, Nat.reduceEqDiff, Nat.reduceAdd, Nat.reduceMul, Nat.reduceLT, Nat.reduceLeDiff, Int.reduceLT, Int.reduceLE, Int.reduceNeg, Int.reduceAdd, Int.reduceSub, Int.reduceMul, Int.reduceToNat, Int.reduceEq, Int.reduceNe, Int.cast_ofNat_Int, Int.natCast_one, Int.natCast_zero, Int.natCast_add, reduceCtorEq, show (n : Int) < 10 by omega, wrapu (show 0 ≤ (n : Int) + 1 ∧ (n : Int) + 1 < 18446744073709551616 by omega), show (n : Int) ≤ (n : Int) + 1 by omega, show 0 ≤ (n : Int) by omega, show (n : Int) + 1 ≤ 10 by omega, show ((n : Int) + 1).toNat - n = 1 by omega, digs n h10]
    rw [dec, if_pos h10]
  | succ k ih =>
    intro n hn hk hb σ
    refine cw_in Tryd.func104 rfl Tryd.ntmps104 (rs := [.tmp 2]) rfl (by kernel_rfl) (by exact Nat.le_of_ble_eq_true rfl) ?_
    by_cases h10 : n < 10
    · simp only [go_sem, ↓reduceIte, Nat.reduceEqDiff, Nat.reduceAdd, Nat.reduceMul, Nat.reduceLT, Nat.reduceLeDiff, Int.reduceLT, Int.reduceLE, Int.reduceNeg, Int.reduceAdd, Int.reduceSub, Int.reduceMul, Int.reduceToNat, Int.reduceEq, Int.reduceNe, Int.cast_ofNat_Int, Int.natCast_one, Int.natCast_zero, Int.natCast_add, reduceCtorEq, show (n : Int) < 10 by omega, wrapu (show 0 ≤ (n : Int) + 1 ∧ (n : Int) + 1 < 18446744073709551616 by omega), show (n : Int) ≤ (n : Int) + 1 by omega, show 0 ≤ (n : Int) by omega, show (n : Int) + 1 ≤ 10 by omega, show ((n : Int) + 1).toNat - n = 1 by omega, digs n h10]
      rw [dec, if_pos h10]
    · have e1 : (n : Int).tdiv 10 = ((n / 10 : Nat) : Int) := by rw [Int.tdiv_eq_ediv_of_nonneg (by omega)]; rfl
      have e2 : (n : Int).tmod 10 = ((n % 10 : Nat) : Int) := by rw [Int.tmod_eq_emod_of_nonneg (by omega)]; rfl
      simp only [go_sem, ↓reduceIte, Nat.reduceEqDiff, Nat.reduceAdd, Nat.reduceMul, Nat.reduceLT, Nat.reduceLeDiff, Int.reduceLT, Int.reduceLE, Int.reduceNeg, Int.reduceAdd, Int.reduceSub, Int.reduceMul, Int.reduceToNat, Int.reduceEq, Int.reduceNe, Int.cast_ofNat_Int, Int.natCast_one, Int.natCast_zero, Int.natCast_add, reduceCtorEq, show ¬ (n : Int) < 10 by omega, i_quo (show (10 : Int) ≠ 0 by omega), i_rem (show (10 : Int) ≠ 0 by omega), e1, e2, wrapu (show 0 ≤ ((n / 10 : Nat) : Int) ∧ ((n / 10 : Nat) : Int) < 18446744073709551616 by omega)]
      refine (ih (n / 10) (by rw [Nat.pow_succ] at hn; omega) (by omega) (by omega) σ).mono ?_
      rintro _ _ ⟨rfl, rfl⟩
      have hlen := dec_len k (n / 10) (by rw [Nat.pow_succ] at hn; omega)
      have h3 : n % 10 < 10 := Nat.mod_lt _ (by omega)
      generalize hm : n % 10 = m at *
      simp only [go_sem, ↓reduceIte, Nat.reduceEqDiff, Nat.reduceAdd, Nat.reduceMul, Nat.reduceLT, Nat.reduceLeDiff, Int.reduceLT, Int.reduceLE, Int.reduceNeg, Int.reduceAdd, Int.reduceSub, Int.reduceMul, Int.reduceToNat, Int.reduceEq, Int.reduceNe, Int.cast_ofNat_Int, Int.natCast_one, Int.natCast_zero, Int.natCast_add, reduceCtorEq, i_rem (show (10 : Int) ≠ 0 by omega), e2, wrapu (show 0 ≤ (m : Int) + 1 ∧ (m : Int) + 1 < 18446744073709551616 by omega), show (m : Int) ≤ (m : Int) + 1 by omega, show 0 ≤ (m : Int) by omega, show (m : Int) + 1 ≤ 10 by omega, show ((m : Int) + 1).toNat - m = 1 by omega, digs m h3, sadd (show (dec (n / 10)).length + [UInt8.ofNat (48 + m)].length ≤ 9223372036854775807 by simp; omega)]
      rw [dec.eq_def n, if_neg h10, hm]
set_option maxHeartbeats 1000000 in
theorem f77_ok (X : Ext) (n : Int) (hn : -9223372036854775808 ≤ n ∧ n ≤ 9223372036854775807) (σ : Heap) : CW Tryd.prog X 77 [.int .i64 n] σ fun v σ' => v = .string (str (num n)) ∧ σ' = σ := by
  refine cw_in Tryd.func77 rfl Tryd.ntmps77 (rs := [.tmp 2]) rfl (by kernel_rfl) (by exact Nat.le_of_ble_eq_true rfl) ?_
  by_cases h : n < 0
  · obtain ⟨m, hm⟩ : ∃ m : Nat, -n = (m : Int) := ⟨(-n).toNat, by omega⟩
    have e : n = -(m : Int) := by omega
    subst e
    simp only [go_sem, ↓reduceIte, Nat.reduceEqDiff, Nat.reduceAdd, Nat.reduceMul, Nat.reduceLT, Nat.reduceLeDiff, Int.reduceLT, Int.reduceLE, Int.reduceNeg, Int.reduceAdd, Int.reduceSub, Int.reduceMul, Int.reduceToNat, Int.reduceEq, Int.reduceNe, Int.cast_ofNat_Int, Int.natCast_one, Int.natCast_zero, Int.natCast_add, reduceCtorEq, h, wrap64 (show -9223372036854775808 ≤ -(m : Int) + 1 ∧ -(m : Int) + 1 ≤ 9223372036854775807 by omega), wrap64 (show -9223372036854775808 ≤ 0 - (-(m : Int) + 1) ∧ 0 - (-(m : Int) + 1) ≤ 9223372036854775807 by omega), wrapu (show 0 ≤ 0 - (-(m : Int) + 1) ∧ 0 - (-(m : Int) + 1) < 18446744073709551616 by omega), wrapu (show 0 ≤ 0 - (-(m : Int) + 1) + 1 ∧ 0 - (-(m : Int) + 1) + 1 < 18446744073709551616 by omega)]
    rw [show 0 - (-(m : Int) + 1) + 1 = (m : Int) by omega]
    refine (f104_ok X 19 m (by omega) (by omega) (by omega) _).mono ?_
    rintro _ _ ⟨rfl, rfl⟩
    have := dec_len 19 m (by omega)
    simp only [go_sem, ↓reduceIte, Nat.reduceEqDiff, Nat.reduceAdd, Nat.reduceMul, Nat.reduceLT, Nat.reduceLeDiff, Int.reduceLT, Int.reduceLE, Int.reduceNeg, Int.reduceAdd, Int.reduceSub, Int.reduceMul, Int.reduceToNat, Int.reduceEq, Int.reduceNe, Int.cast_ofNat_Int, Int.natCast_one, Int.natCast_zero, Int.natCast_add, reduceCtorEq, sadd (show [45].length + (dec m).length ≤ 9223372036854775807 by simp; omega)]
    rw [num, if_pos h]
    simp
  · obtain ⟨m, hm⟩ : ∃ m : Nat, n = (m : Int) := ⟨n.toNat, by omega⟩
    subst hm
    simp only [go_sem, ↓reduceIte, Nat.reduceEqDiff, Nat.reduceAdd, Nat.reduceMul, Nat.reduceLT, Nat.reduceLeDiff, Int.reduceLT, Int.reduceLE, Int.reduceNeg, Int.reduceAdd, Int.reduceSub, Int.reduceMul, Int.reduceToNat, Int.reduceEq, Int.reduceNe, Int.cast_ofNat_Int, Int.natCast_one, Int.natCast_zero, Int.natCast_add, reduceCtorEq, h, wrapu (show 0 ≤ (m : Int) ∧ (m : Int) < 18446744073709551616 by omega)]
    refine (f104_ok X 19 m (by omega) (by omega) (by omega) _).mono ?_
    rintro _ _ ⟨rfl, rfl⟩
    simp only [go_sem, ↓reduceIte, Nat.reduceEqDiff, Nat.reduceAdd, Nat.reduceMul, Nat.reduceLT, Nat.reduceLeDiff, Int.reduceLT, Int.reduceLE, Int.reduceNeg, Int.reduceAdd, Int.reduceSub, Int.reduceMul, Int.reduceToNat, Int.reduceEq, Int.reduceNe, Int.cast_ofNat_Int, Int.natCast_one, Int.natCast_zero, Int.natCast_add, reduceCtorEq]
    rw [num, if_neg h]
    simp

/-! ### what a string denotes -/
def hexv (c : Int) : Int := if 48 ≤ c ∧ c ≤ 57 then c - 48 else if 97 ≤ c ∧ c ≤ 102 then c - 97 + 10 else if 65 ≤ c ∧ c ≤ 70 then c - 65 + 10 else -1
theorem hexv_le {c : Int} (h : 0 ≤ c) : -1 ≤ hexv c ∧ hexv c ≤ 15 := by
  unfold hexv
  repeat' split
  all_goals omega
theorem f103_ok (X : Ext) (c : Int) (hc : 0 ≤ c ∧ c ≤ 255) (σ : Heap) : CW Tryd.prog X 103 [.int .u8 c] σ fun v σ' => v = .int .i64 (hexv c) ∧ σ' = σ := by
  refine cw_in Tryd.func103 rfl Tryd.ntmps103 (rs := [.tmp 2]) rfl (by kernel_rfl) (by exact Nat.le_of_ble_eq_true rfl) ?_
  have hw : IntKind.i64.wrap c = c := wrap64 (by omega)
  simp only [go_sem, ↓reduceIte, Nat.reduceEqDiff, Nat.reduceAdd, Nat.reduceMul, Nat.reduceLT, Nat.reduceLeDiff, Int.reduceLT, Int.reduceLE, Int.reduceNeg, Int.reduceAdd, Int.reduceSub, Int.reduceMul, Int.reduceToNat, Int.reduceEq, Int.reduceNe, Int.cast_ofNat_Int, Int.natCast_one, Int.natCast_zero, Int.natCast_add, reduceCtorEq, hw]
  refine (f22_ok X c _ _ _).mono ?_
  rintro _ _ ⟨rfl, rfl⟩
  simp only [go_sem, ↓reduceIte, Nat.reduceEqDiff, Nat.reduceAdd, Nat.reduceMul, Nat.reduceLT, Nat.reduceLeDiff, Int.reduceLT, Int.reduceLE, Int.reduceNeg, Int.reduceAdd, Int.reduceSub, Int.reduceMul, Int.reduceToNat, Int.reduceEq, Int.reduceNe, Int.cast_ofNat_Int, Int.natCast_one, Int.natCast_zero, Int.natCast_add, reduceCtorEq]
  refine fork_dec (fun _ => ?_) (fun _ => ?_)
  · rename_i h1
    simp only [go_sem, ↓reduceIte, Nat.reduceEqDiff, Nat.reduceAdd, Nat.reduceMul, Nat.reduceLT, Nat.reduceLeDiff, Int.reduceLT, Int.reduceLE, Int.reduceNeg, Int.reduceAdd, Int.reduceSub, Int.reduceMul, Int.reduceToNat, Int.reduceEq, Int.reduceNe, Int.cast_ofNat_Int, Int.natCast_one, Int.natCast_zero, Int.natCast_add, reduceCtorEq, wrap64 (show -9223372036854775808 ≤ c - 48 ∧ c - 48 ≤ 9223372036854775807 by omega)]
    simp only [hexv, h1, and_self, if_true]
  · rename_i h1
    simp only [go_sem, ↓reduceIte, Nat.reduceEqDiff, Nat.reduceAdd, Nat.reduceMul, Nat.reduceLT, Nat.reduceLeDiff, Int.reduceLT, Int.reduceLE, Int.reduceNeg, Int.reduceAdd, Int.reduceSub, Int.reduceMul, Int.reduceToNat, Int.reduceEq, Int.reduceNe, Int.cast_ofNat_Int, Int.natCast_one, Int.natCast_zero, Int.natCast_add, reduceCtorEq]
    refine (f22_ok X c _ _ _).mono ?_
    rintro _ _ ⟨rfl, rfl⟩
    simp only [go_sem, ↓reduceIte, Nat.reduceEqDiff, Nat.reduceAdd, Nat.reduceMul, Nat.reduceLT, Nat.reduceLeDiff, Int.reduceLT, Int.reduceLE, Int.reduceNeg, Int.reduceAdd, Int.reduceSub, Int.reduceMul, Int.reduceToNat, Int.reduceEq, Int.reduceNe, Int.cast_ofNat_Int, Int.natCast_one, Int.natCast_zero, Int.natCast_add, reduceCtorEq]
    refine fork_dec (fun _ => ?_) (fun _ => ?_)
    · rename_i h2
      simp only [go_sem, ↓reduceIte, Nat.reduceEqDiff, Nat.reduceAdd, Nat.reduceMul, Nat.reduceLT, Nat.reduceLeDiff, Int.reduceLT, Int.reduceLE, Int.reduceNeg, Int.reduceAdd, Int.reduceSub, Int.reduceMul, Int.reduceToNat, Int.reduceEq, Int.reduceNe, Int.cast_ofNat_Int, Int.natCast_one, Int.natCast_zero, Int.natCast_add, reduceCtorEq, wrap64 (show -9223372036854775808 ≤ c - 97 ∧ c - 97 ≤ 9223372036854775807 by omega), wrap64 (show -9223372036854775808 ≤ c - 97 + 10 ∧ c - 97 + 10 ≤ 9223372036854775807 by omega)]
      simp only [hexv, if_neg h1, if_pos h2]
    · rename_i h2
      simp only [go_sem, ↓reduceIte, Nat.reduceEqDiff, Nat.reduceAdd, Nat.reduceMul, Nat.reduceLT, Nat.reduceLeDiff, Int.reduceLT, Int.reduceLE, Int.reduceNeg, Int.reduceAdd, Int.reduceSub, Int.reduceMul, Int.reduceToNat, Int.reduceEq, Int.reduceNe, Int.cast_ofNat_Int, Int.natCast_one, Int.natCast_zero, Int.natCast_add, reduceCtorEq]
      refine (f22_ok X c _ _ _).mono ?_
      rintro _ _ ⟨rfl, rfl⟩
      simp only [go_sem, ↓reduceIte, Nat.reduceEqDiff, Nat.reduceAdd, Nat.reduceMul, Nat.reduceLT, Nat.reduceLeDiff, Int.reduceLT, Int.reduceLE, Int.reduceNeg, Int.reduceAdd, Int.reduceSub, Int.reduceMul, Int.reduceToNat, Int.reduceEq, Int.reduceNe, Int.cast_ofNat_Int, Int.natCast_one, Int.natCast_zero, Int.natCast_add, reduceCtorEq]
      refine fork_dec (fun _ => ?_) (fun _ => ?_)
      · rename_i h3
        simp only [go_sem, ↓reduceIte, Nat.reduceEqDiff, Nat.reduceAdd, Nat.reduceMul, Nat.reduceLT, Nat.reduceLeDiff, Int.reduceLT, Int.reduceLE, Int.reduceNeg, Int.reduceAdd, Int.reduceSub, Int.reduceMul, Int.reduceToNat, Int.reduceEq, Int.reduceNe, Int.cast_ofNat_Int, Int.natCast_one, Int.natCast_zero, Int.natCast_add, reduceCtorEq, wrap64 (show -9223372036854775808 ≤ c - 65 ∧ c - 65 ≤ 9223372036854775807 by omega), wrap64 (show -9223372036854775808 ≤ c - 65 + 10 ∧ c - 65 + 10 ≤ 9223372036854775807 by omega)]
        simp only [hexv, if_neg h1, if_neg h2, if_pos h3]
      · rename_i h3
        simp only [go_sem, ↓reduceIte, Nat.reduceEqDiff, Nat.reduceAdd, Nat.reduceMul, Nat.reduceLT, Nat.reduceLeDiff, Int.reduceLT, Int.reduceLE, Int.reduceNeg, Int.reduceAdd, Int.reduceSub, Int.reduceMul, Int.reduceToNat, Int.reduceEq, Int.reduceNe, Int.cast_ofNat_Int, Int.natCast_one, Int.natCast_zero, Int.natCast_add, reduceCtorEq]
        simp only [hexv, if_neg h1, if_neg h2, if_neg h3]
def denL (base : Int) : Int → List UInt8 → Option Int
  | a, [] => some a
  | a, b :: l => if hexv b.toNat < 0 ∨ base ≤ hexv b.toNat then none else if 4294967296 ≤ a * base + hexv b.toNat then none else denL base (a * base + hexv b.toNat) l
def hexy (l : List UInt8) : Bool := decide (2 < l.length) && (decide (l[0]? = some 48) && decide (l[1]? = some 120))
def denB (l : List UInt8) : Int := if hexy l = true then 16 else 10
def denF (l : List UInt8) : Nat := if hexy l = true then 2 else 0
def den (l : List UInt8) : Int × Bool := match denL (denB l) 0 (l.drop (denF l)) with
  | none => (0, false)
  | some n => (n, decide (denF l < l.length) && (decide (denB l = 16) || (decide (l.length = 1) || !decide (l[0]? = some 48))))
theorem denL_at {base a : Int} {l : List UInt8} {i : Nat} {b : UInt8} (h : l[i]? = some b) : denL base a (l.drop i) = if hexv b.toNat < 0 ∨ base ≤ hexv b.toNat then none else if 4294967296 ≤ a * base + hexv b.toNat then none else denL base (a * base + hexv b.toNat) (l.drop (i + 1)) := by
  obtain ⟨hi, rfl⟩ := List.getElem?_eq_some_iff.1 h
  rw [List.drop_eq_getElem_cons hi, denL]
theorem u8_eq (b : UInt8) (n : Nat) (h : n < 256) : ((b.toNat : Int) = (n : Int)) = (b = UInt8.ofNat n) := by
  apply propext
  constructor
  · intro e
    apply UInt8.toNat_inj.1
    rw [UInt8.toNat_ofNat_of_lt' (by simpa [UInt8.size] using h)]
    omega
  · rintro rfl
    rw [UInt8.toNat_ofNat_of_lt' (by simpa [UInt8.size] using h)]

set_option maxHeartbeats 2000000 in
theorem f76_ok (X : Ext) (l : List UInt8) (hs : l.length ≤ 140737488351232) (σ : Heap) : CW Tryd.prog X 76 [.string (str l)] σ fun v σ' => v = .tuple #[.int .i64 (den l).1, .bool (den l).2] ∧ σ' = σ := by
  refine cw_in Tryd.func76 rfl Tryd.ntmps76 (rs := [.tmp 2, .tmp 3]) rfl (by kernel_rfl) (by exact Nat.le_of_ble_eq_true rfl) ?_
  have b48 : ∀ b : UInt8, ((b.toNat : Int) = 48) = (b = 48) := fun b => u8_eq b 48 (by omega)
  have b120 : ∀ b : UInt8, ((b.toNat : Int) = 120) = (b = 120) := fun b => u8_eq b 120 (by omega)
  have b48' : ∀ b : UInt8, ((b.toNat : Int) ≠ 48) = (b ≠ 48) := fun b => by rw [ne_eq, b48]
  have hden : ∀ base : Int, ∀ f : Nat, denB l = base → denF l = f → den l = match denL base 0 (l.drop f) with
      | none => (0, false)
      | some n => (n, decide (f < l.length) && (decide (base = 16) || (decide (l.length = 1) || !decide (l[0]? = some 48)))) := by
    rintro _ _ rfl rfl; rfl
  by_cases hy : hexy l = true
  · have hbase : denB l = 16 := by rw [denB, if_pos hy]
    have hfrom : denF l = 2 := by rw [denF, if_pos hy]
    unfold hexy at hy
    simp only [Bool.and_eq_true, decide_eq_true_eq] at hy
    obtain ⟨y1, y2, y3⟩ := hy
    simp only [go_sem, ↓reduceIte, Nat.reduceEqDiff, Nat.reduceAdd, Nat.reduceMul, Nat.reduceLT, Nat.reduceLeDiff, Int.reduceLT, Int.reduceLE, Int.reduceNeg, Int.reduceAdd, Int.reduceSub, Int.reduceMul, Int.reduceToNat, Int.reduceEq, Int.reduceNe, Int.cast_ofNat_Int, Int.natCast_one, Int.natCast_zero, Int.natCast_add, reduceCtorEq, show (2 : Int) < (l.length : Int) by omega, y2, y3, show ((48 : UInt8).toNat : Int) = 48 from rfl, show ((120 : UInt8).toNat : Int) = 120 from rfl]
    refine LW_run (fun k T σ' => ∃ (i : Nat) (a : Int), i + k = l.length ∧ 2 ≤ i ∧ σ' = σ ∧ T 0 = .string (str l) ∧ T 4 = .int .i64 16 ∧ T 5 = .int .i64 2 ∧ T 6 = .int .i64 a ∧ T 7 = .int .i64 i ∧ 0 ≤ a ∧ a < 4294967296 ∧ denL 16 0 (l.drop 2) = denL 16 a (l.drop i)) (l.length - 2) ⟨2, 0, by omega, Nat.le_refl _, rfl, rfl, rfl, rfl, rfl, rfl, by omega, by omega, rfl⟩ ?_
    rintro k T _ ⟨i, a, hk, hfi, rfl, t0, t4, t5, t6, t7, ha0, ha1, hv⟩
    simp only [go_sem, ↓reduceIte, Nat.reduceEqDiff, Nat.reduceAdd, Nat.reduceMul, Nat.reduceLT, Nat.reduceLeDiff, Int.reduceLT, Int.reduceLE, Int.reduceNeg, Int.reduceAdd, Int.reduceSub, Int.reduceMul, Int.reduceToNat, Int.reduceEq, Int.reduceNe, Int.cast_ofNat_Int, Int.natCast_one, Int.natCast_zero, Int.natCast_add, reduceCtorEq, t0, t4, t5, t6, t7]
    refine fork_dec (fun _ => ?_) (fun _ => ?_)
    · rename_i hi
      obtain ⟨b, hb⟩ : ∃ b, l[i]? = some b := ⟨_, List.getElem?_eq_getElem (by omega)⟩
      have hbb := UInt8.toNat_lt b
      have hx := hexv_le (c := (b.toNat : Int)) (by omega)
      rw [denL_at hb] at hv
      simp only [go_sem, ↓reduceIte, Nat.reduceEqDiff, Nat.reduceAdd, Nat.reduceMul, Nat.reduceLT, Nat.reduceLeDiff, Int.reduceLT, Int.reduceLE, Int.reduceNeg, Int.reduceAdd, Int.reduceSub, Int.reduceMul, Int.reduceToNat, Int.reduceEq, Int.reduceNe, Int.cast_ofNat_Int, Int.natCast_one, Int.natCast_zero, Int.natCast_add, reduceCtorEq, t0, t4, t5, t6, t7, hi, hb]
      refine (f103_ok X _ (by omega) _).mono ?_
      rintro _ _ ⟨rfl, rfl⟩
      generalize hexv (b.toNat : Int) = x at *
      by_cases h1 : x < 0
      · rw [if_pos (.inl h1)] at hv
        simp only [go_sem, ↓reduceIte, Nat.reduceEqDiff, Nat.reduceAdd, Nat.reduceMul, Nat.reduceLT, Nat.reduceLeDiff, Int.reduceLT, Int.reduceLE, Int.reduceNeg, Int.reduceAdd, Int.reduceSub, Int.reduceMul, Int.reduceToNat, Int.reduceEq, Int.reduceNe, Int.cast_ofNat_Int, Int.natCast_one, Int.natCast_zero, Int.natCast_add, reduceCtorEq, t0, t4, t5, t6, t7, h1]
        rw [hden 16 2 hbase hfrom, hv]
      · by_cases h2 : (16 : Int) ≤ x
        · rw [if_pos (.inr h2)] at hv
          simp only [go_sem, ↓reduceIte, Nat.reduceEqDiff, Nat.reduceAdd, Nat.reduceMul, Nat.reduceLT, Nat.reduceLeDiff, Int.reduceLT, Int.reduceLE, Int.reduceNeg, Int.reduceAdd, Int.reduceSub, Int.reduceMul, Int.reduceToNat, Int.reduceEq, Int.reduceNe, Int.cast_ofNat_Int, Int.natCast_one, Int.natCast_zero, Int.natCast_add, reduceCtorEq, t0, t4, t5, t6, t7, h1, h2]
          rw [hden 16 2 hbase hfrom, hv]
        · rw [if_neg (by omega)] at hv
          simp only [go_sem, ↓reduceIte, Nat.reduceEqDiff, Nat.reduceAdd, Nat.reduceMul, Nat.reduceLT, Nat.reduceLeDiff, Int.reduceLT, Int.reduceLE, Int.reduceNeg, Int.reduceAdd, Int.reduceSub, Int.reduceMul, Int.reduceToNat, Int.reduceEq, Int.reduceNe, Int.cast_ofNat_Int, Int.natCast_one, Int.natCast_zero, Int.natCast_add, reduceCtorEq, t0, t4, t5, t6, t7, h1, h2, wrap64 (show -9223372036854775808 ≤ a * 16 ∧ a * 16 ≤ 9223372036854775807 by omega), wrap64 (show -9223372036854775808 ≤ a * 16 + x ∧ a * 16 + x ≤ 9223372036854775807 by omega)]
          refine fork_dec (fun _ => ?_) (fun _ => ?_)
          · rename_i h3
            rw [if_pos h3] at hv
            simp only [go_sem, ↓reduceIte, Nat.reduceEqDiff, Nat.reduceAdd, Nat.reduceMul, Nat.reduceLT, Nat.reduceLeDiff, Int.reduceLT, Int.reduceLE, Int.reduceNeg, Int.reduceAdd, Int.reduceSub, Int.reduceMul, Int.reduceToNat, Int.reduceEq, Int.reduceNe, Int.cast_ofNat_Int, Int.natCast_one, Int.natCast_zero, Int.natCast_add, reduceCtorEq]
            rw [hden 16 2 hbase hfrom, hv]
          · rename_i h3
            rw [if_neg h3] at hv
            simp only [go_sem, ↓reduceIte, Nat.reduceEqDiff, Nat.reduceAdd, Nat.reduceMul, Nat.reduceLT, Nat.reduceLeDiff, Int.reduceLT, Int.reduceLE, Int.reduceNeg, Int.reduceAdd, Int.reduceSub, Int.reduceMul, Int.reduceToNat, Int.reduceEq, Int.reduceNe, Int.cast_ofNat_Int, Int.natCast_one, Int.natCast_zero, Int.natCast_add, reduceCtorEq, t0, t4, t5, t6, t7, wrap64 (show -9223372036854775808 ≤ (i : Int) + 1 ∧ (i : Int) + 1 ≤ 9223372036854775807 by omega)]
            refine ⟨k - 1, by omega, i + 1, a * 16 + x, by omega, by omega, ?_⟩
            (repeat' (first | exact rfl | apply And.intro))
            · omega
            · omega
            · exact hv
    · rename_i hi
      rw [show l.drop i = [] from List.drop_eq_nil_of_le (by omega), denL] at hv
      rw [hden 16 2 hbase hfrom, hv]
      by_cases hF : (2 : Int) < (l.length : Int)
      · obtain ⟨c0, z0⟩ : ∃ b, l[0]? = some b := ⟨_, List.getElem?_eq_getElem (by omega)⟩
        have hF' : 2 < l.length := by omega
        by_cases h1 : l.length = 1
        · simp only [go_sem, ↓reduceIte, Nat.reduceEqDiff, Nat.reduceAdd, Nat.reduceMul, Nat.reduceLT, Nat.reduceLeDiff, Int.reduceLT, Int.reduceLE, Int.reduceNeg, Int.reduceAdd, Int.reduceSub, Int.reduceMul, Int.reduceToNat, Int.reduceEq, Int.reduceNe, Int.cast_ofNat_Int, Int.natCast_one, Int.natCast_zero, Int.natCast_add, reduceCtorEq, t0, t4, t5, t6, t7, hi, hF, hF', show (l.length : Int) = 1 by omega, h1, z0]
          try simp
        · by_cases h48 : c0 = 48
          · simp only [go_sem, ↓reduceIte, Nat.reduceEqDiff, Nat.reduceAdd, Nat.reduceMul, Nat.reduceLT, Nat.reduceLeDiff, Int.reduceLT, Int.reduceLE, Int.reduceNeg, Int.reduceAdd, Int.reduceSub, Int.reduceMul, Int.reduceToNat, Int.reduceEq, Int.reduceNe, Int.cast_ofNat_Int, Int.natCast_one, Int.natCast_zero, Int.natCast_add, reduceCtorEq, t0, t4, t5, t6, t7, hi, hF, hF', show ¬ (l.length : Int) = 1 by omega, h1, z0, h48, show ((48 : UInt8).toNat : Int) = 48 from rfl]
            try simp
          · simp only [go_sem, ↓reduceIte, Nat.reduceEqDiff, Nat.reduceAdd, Nat.reduceMul, Nat.reduceLT, Nat.reduceLeDiff, Int.reduceLT, Int.reduceLE, Int.reduceNeg, Int.reduceAdd, Int.reduceSub, Int.reduceMul, Int.reduceToNat, Int.reduceEq, Int.reduceNe, Int.cast_ofNat_Int, Int.natCast_one, Int.natCast_zero, Int.natCast_add, reduceCtorEq, t0, t4, t5, t6, t7, hi, hF, hF', show ¬ (l.length : Int) = 1 by omega, h1, z0, h48, b48, Option.some.injEq]
            try simp
      · simp only [go_sem, ↓reduceIte, Nat.reduceEqDiff, Nat.reduceAdd, Nat.reduceMul, Nat.reduceLT, Nat.reduceLeDiff, Int.reduceLT, Int.reduceLE, Int.reduceNeg, Int.reduceAdd, Int.reduceSub, Int.reduceMul, Int.reduceToNat, Int.reduceEq, Int.reduceNe, Int.cast_ofNat_Int, Int.natCast_one, Int.natCast_zero, Int.natCast_add, reduceCtorEq, t0, t4, t5, t6, t7, hi, hF, show ¬ 2 < l.length by omega]
  · have hbase : denB l = 10 := by rw [denB, if_neg hy]
    have hfrom : denF l = 0 := by rw [denF, if_neg hy]
    unfold hexy at hy
    by_cases y1 : 2 < l.length
    · obtain ⟨b0, y2⟩ : ∃ b, l[0]? = some b := ⟨_, List.getElem?_eq_getElem (by omega)⟩
      obtain ⟨b1, y3⟩ : ∃ b, l[1]? = some b := ⟨_, List.getElem?_eq_getElem (by omega)⟩
      by_cases h48 : b0 = 48
      · have h120 : ¬ b1 = 120 := fun h => hy (by simp [y1, y2, y3, h48, h])
        simp only [go_sem, ↓reduceIte, Nat.reduceEqDiff, Nat.reduceAdd, Nat.reduceMul, Nat.reduceLT, Nat.reduceLeDiff, Int.reduceLT, Int.reduceLE, Int.reduceNeg, Int.reduceAdd, Int.reduceSub, Int.reduceMul, Int.reduceToNat, Int.reduceEq, Int.reduceNe, Int.cast_ofNat_Int, Int.natCast_one, Int.natCast_zero, Int.natCast_add, reduceCtorEq, show (2 : Int) < (l.length : Int) by omega, y2, y3, b48, b120, h48, h120]
        refine LW_run (fun k T σ' => ∃ (i : Nat) (a : Int), i + k = l.length ∧ 0 ≤ i ∧ σ' = σ ∧ T 0 = .string (str l) ∧ T 4 = .int .i64 10 ∧ T 5 = .int .i64 0 ∧ T 6 = .int .i64 a ∧ T 7 = .int .i64 i ∧ 0 ≤ a ∧ a < 4294967296 ∧ denL 10 0 (l.drop 0) = denL 10 a (l.drop i)) (l.length - 0) ⟨0, 0, by omega, Nat.le_refl _, rfl, rfl, rfl, rfl, rfl, rfl, by omega, by omega, rfl⟩ ?_
        rintro k T _ ⟨i, a, hk, hfi, rfl, t0, t4, t5, t6, t7, ha0, ha1, hv⟩
        simp only [go_sem, ↓reduceIte, Nat.reduceEqDiff, Nat.reduceAdd, Nat.reduceMul, Nat.reduceLT, Nat.reduceLeDiff, Int.reduceLT, Int.reduceLE, Int.reduceNeg, Int.reduceAdd, Int.reduceSub, Int.reduceMul, Int.reduceToNat, Int.reduceEq, Int.reduceNe, Int.cast_ofNat_Int, Int.natCast_one, Int.natCast_zero, Int.natCast_add, reduceCtorEq, t0, t4, t5, t6, t7]
        refine fork_dec (fun _ => ?_) (fun _ => ?_)
        · rename_i hi
          obtain ⟨b, hb⟩ : ∃ b, l[i]? = some b := ⟨_, List.getElem?_eq_getElem (by omega)⟩
          have hbb := UInt8.toNat_lt b
          have hx := hexv_le (c := (b.toNat : Int)) (by omega)
          rw [denL_at hb] at hv
          simp only [go_sem, ↓reduceIte, Nat.reduceEqDiff, Nat.reduceAdd, Nat.reduceMul, Nat.reduceLT, Nat.reduceLeDiff, Int.reduceLT, Int.reduceLE, Int.reduceNeg, Int.reduceAdd, Int.reduceSub, Int.reduceMul, Int.reduceToNat, Int.reduceEq, Int.reduceNe, Int.cast_ofNat_Int, Int.natCast_one, Int.natCast_zero, Int.natCast_add, reduceCtorEq, t0, t4, t5, t6, t7, hi, hb]
          refine (f103_ok X _ (by omega) _).mono ?_
          rintro _ _ ⟨rfl, rfl⟩
          generalize hexv (b.toNat : Int) = x at *
          by_cases h1 : x < 0
          · rw [if_pos (.inl h1)] at hv
            simp only [go_sem, ↓reduceIte, Nat.reduceEqDiff, Nat.reduceAdd, Nat.reduceMul, Nat.reduceLT, Nat.reduceLeDiff, Int.reduceLT, Int.reduceLE, Int.reduceNeg, Int.reduceAdd, Int.reduceSub, Int.reduceMul, Int.reduceToNat, Int.reduceEq, Int.reduceNe, Int.cast_ofNat_Int, Int.natCast_one, Int.natCast_zero, Int.natCast_add, reduceCtorEq, t0, t4, t5, t6, t7, h1]
            rw [hden 10 0 hbase hfrom, hv]
          · by_cases h2 : (10 : Int) ≤ x
            · rw [if_pos (.inr h2)] at hv
              simp only [go_sem, ↓reduceIte, Nat.reduceEqDiff, Nat.reduceAdd, Nat.reduceMul, Nat.reduceLT, Nat.reduceLeDiff, Int.reduceLT, Int.reduceLE, Int.reduceNeg, Int.reduceAdd, Int.reduceSub, Int.reduceMul, Int.reduceToNat, Int.reduceEq, Int.reduceNe, Int.cast_ofNat_Int, Int.natCast_one, Int.natCast_zero, Int.natCast_add, reduceCtorEq, t0, t4, t5, t6, t7, h1, h2]
              rw [hden 10 0 hbase hfrom, hv]
            · rw [if_neg (by omega)] at hv
              simp only [go_sem, ↓reduceIte, Nat.reduceEqDiff, Nat.reduceAdd, Nat.reduceMul, Nat.reduceLT, Nat.reduceLeDiff, Int.reduceLT, Int.reduceLE, Int.reduceNeg, Int.reduceAdd, Int.reduceSub, Int.reduceMul, Int.reduceToNat, Int.reduceEq, Int.reduceNe, Int.cast_ofNat_Int, Int.natCast_one, Int.natCast_zero, Int.natCast_add, reduceCtorEq, t0, t4, t5, t6, t7, h1, h2, wrap64 (show -9223372036854775808 ≤ a * 10 ∧ a * 10 ≤ 9223372036854775807 by omega), wrap64 (show -9223372036854775808 ≤ a * 10 + x ∧ a * 10 + x ≤ 9223372036854775807 by omega)]
              refine fork_dec (fun _ => ?_) (fun _ => ?_)
              · rename_i h3
                rw [if_pos h3] at hv
                simp only [go_sem, ↓reduceIte, Nat.reduceEqDiff, Nat.reduceAdd, Nat.reduceMul, Nat.reduceLT, Nat.reduceLeDiff, Int.reduceLT, Int.reduceLE, Int.reduceNeg, Int.reduceAdd, Int.reduceSub, Int.reduceMul, Int.reduceToNat, Int.reduceEq, Int.reduceNe, Int.cast_ofNat_Int, Int.natCast_one, Int.natCast_zero, Int.natCast_add, reduceCtorEq]
                rw [hden 10 0 hbase hfrom, hv]
              · rename_i h3
                rw [if_neg h3] at hv
                simp only [go_sem, ↓reduceIte, Nat.reduceEqDiff, Nat.reduceAdd, Nat.reduceMul, Nat.reduceLT, Nat.reduceLeDiff, Int.reduceLT, Int.reduceLE, Int.reduceNeg, Int.reduceAdd, Int.reduceSub, Int.reduceMul, Int.reduceToNat, Int.reduceEq, Int.reduceNe, Int.cast_ofNat_Int, Int.natCast_one, Int.natCast_zero, Int.natCast_add, reduceCtorEq, t0, t4, t5, t6, t7, wrap64 (show -9223372036854775808 ≤ (i : Int) + 1 ∧ (i : Int) + 1 ≤ 9223372036854775807 by omega)]
                refine ⟨k - 1, by omega, i + 1, a * 10 + x, by omega, by omega, ?_⟩
                (repeat' (first | exact rfl | apply And.intro))
                · omega
                · omega
                · exact hv
        · rename_i hi
          rw [show l.drop i = [] from List.drop_eq_nil_of_le (by omega), denL] at hv
          rw [hden 10 0 hbase hfrom, hv]
          by_cases hF : (0 : Int) < (l.length : Int)
          · obtain ⟨c0, z0⟩ : ∃ b, l[0]? = some b := ⟨_, List.getElem?_eq_getElem (by omega)⟩
            have hF' : 0 < l.length := by omega
            by_cases h1 : l.length = 1
            · simp only [go_sem, ↓reduceIte, Nat.reduceEqDiff, Nat.reduceAdd, Nat.reduceMul, Nat.reduceLT, Nat.reduceLeDiff, Int.reduceLT, Int.reduceLE, Int.reduceNeg, Int.reduceAdd, Int.reduceSub, Int.reduceMul, Int.reduceToNat, Int.reduceEq, Int.reduceNe, Int.cast_ofNat_Int, Int.natCast_one, Int.natCast_zero, Int.natCast_add, reduceCtorEq, t0, t4, t5, t6, t7, hi, hF, hF', show (l.length : Int) = 1 by omega, h1, z0]
              try simp
            · by_cases h48 : c0 = 48
              · simp only [go_sem, ↓reduceIte, Nat.reduceEqDiff, Nat.reduceAdd, Nat.reduceMul, Nat.reduceLT, Nat.reduceLeDiff, Int.reduceLT, Int.reduceLE, Int.reduceNeg, Int.reduceAdd, Int.reduceSub, Int.reduceMul, Int.reduceToNat, Int.reduceEq, Int.reduceNe, Int.cast_ofNat_Int, Int.natCast_one, Int.natCast_zero, Int.natCast_add, reduceCtorEq, t0, t4, t5, t6, t7, hi, hF, hF', show ¬ (l.length : Int) = 1 by omega, h1, z0, h48, show ((48 : UInt8).toNat : Int) = 48 from rfl]
                try simp
              · simp only [go_sem, ↓reduceIte, Nat.reduceEqDiff, Nat.reduceAdd, Nat.reduceMul, Nat.reduceLT, Nat.reduceLeDiff, Int.reduceLT, Int.reduceLE, Int.reduceNeg, Int.reduceAdd, Int.reduceSub, Int.reduceMul, Int.reduceToNat, Int.reduceEq, Int.reduceNe, Int.cast_ofNat_Int, Int.natCast_one, Int.natCast_zero, Int.natCast_add, reduceCtorEq, t0, t4, t5, t6, t7, hi, hF, hF', show ¬ (l.length : Int) = 1 by omega, h1, z0, h48, b48, Option.some.injEq]
                try simp
          · simp only [go_sem, ↓reduceIte, Nat.reduceEqDiff, Nat.reduceAdd, Nat.reduceMul, Nat.reduceLT, Nat.reduceLeDiff, Int.reduceLT, Int.reduceLE, Int.reduceNeg, Int.reduceAdd, Int.reduceSub, Int.reduceMul, Int.reduceToNat, Int.reduceEq, Int.reduceNe, Int.cast_ofNat_Int, Int.natCast_one, Int.natCast_zero, Int.natCast_add, reduceCtorEq, t0, t4, t5, t6, t7, hi, hF, show ¬ 0 < l.length by omega]
      · simp only [go_sem, ↓reduceIte, Nat.reduceEqDiff, Nat.reduceAdd, Nat.reduceMul, Nat.reduceLT, Nat.reduceLeDiff, Int.reduceLT, Int.reduceLE, Int.reduceNeg, Int.reduceAdd, Int.reduceSub, Int.reduceMul, Int.reduceToNat, Int.reduceEq, Int.reduceNe, Int.cast_ofNat_Int, Int.natCast_one, Int.natCast_zero, Int.natCast_add, reduceCtorEq, show (2 : Int) < (l.length : Int) by omega, y2, y3, b48, h48]
        refine LW_run (fun k T σ' => ∃ (i : Nat) (a : Int), i + k = l.length ∧ 0 ≤ i ∧ σ' = σ ∧ T 0 = .string (str l) ∧ T 4 = .int .i64 10 ∧ T 5 = .int .i64 0 ∧ T 6 = .int .i64 a ∧ T 7 = .int .i64 i ∧ 0 ≤ a ∧ a < 4294967296 ∧ denL 10 0 (l.drop 0) = denL 10 a (l.drop i)) (l.length - 0) ⟨0, 0, by omega, Nat.le_refl _, rfl, rfl, rfl, rfl, rfl, rfl, by omega, by omega, rfl⟩ ?_
        rintro k T _ ⟨i, a, hk, hfi, rfl, t0, t4, t5, t6, t7, ha0, ha1, hv⟩
        simp only [go_sem, ↓reduceIte, Nat.reduceEqDiff, Nat.reduceAdd, Nat.reduceMul, Nat.reduceLT, Nat.reduceLeDiff, Int.reduceLT, Int.reduceLE, Int.reduceNeg, Int.reduceAdd, Int.reduceSub, Int.reduceMul, Int.reduceToNat, Int.reduceEq, Int.reduceNe, Int.cast_ofNat_Int, Int.natCast_one, Int.natCast_zero, Int.natCast_add, reduceCtorEq, t0, t4, t5, t6, t7]
        refine fork_dec (fun _ => ?_) (fun _ => ?_)
        · rename_i hi
          obtain ⟨b, hb⟩ : ∃ b, l[i]? = some b := ⟨_, List.getElem?_eq_getElem (by omega)⟩
          have hbb := UInt8.toNat_lt b
          have hx := hexv_le (c := (b.toNat : Int)) (by omega)
          rw [denL_at hb] at hv
          simp only [go_sem, ↓reduceIte, Nat.reduceEqDiff, Nat.reduceAdd, Nat.reduceMul, Nat.reduceLT, Nat.reduceLeDiff, Int.reduceLT, Int.reduceLE, Int.reduceNeg, Int.reduceAdd, Int.reduceSub, Int.reduceMul, Int.reduceToNat, Int.reduceEq, Int.reduceNe, Int.cast_ofNat_Int, Int.natCast_one, Int.natCast_zero, Int.natCast_add, reduceCtorEq, t0, t4, t5, t6, t7, hi, hb]
          refine (f103_ok X _ (by omega) _).mono ?_
          rintro _ _ ⟨rfl, rfl⟩
          generalize hexv (b.toNat : Int) = x at *
          by_cases h1 : x < 0
          · rw [if_pos (.inl h1)] at hv
            simp only [go_sem, ↓reduceIte, Nat.reduceEqDiff, Nat.reduceAdd, Nat.reduceMul, Nat.reduceLT, Nat.reduceLeDiff, Int.reduceLT, Int.reduceLE, Int.reduceNeg, Int.reduceAdd, Int.reduceSub, Int.reduceMul, Int.reduceToNat, Int.reduceEq, Int.reduceNe, Int.cast_ofNat_Int, Int.natCast_one, Int.natCast_zero, Int.natCast_add, reduceCtorEq, t0, t4, t5, t6, t7, h1]
            rw [hden 10 0 hbase hfrom, hv]
          · by_cases h2 : (10 : Int) ≤ x
            · rw [if_pos (.inr h2)] at hv
              simp only [go_sem, ↓reduceIte, Nat.reduceEqDiff, Nat.reduceAdd, Nat.reduceMul, Nat.reduceLT, Nat.reduceLeDiff, Int.reduceLT, Int.reduceLE, Int.reduceNeg, Int.reduceAdd, Int.reduceSub, Int.reduceMul, Int.reduceToNat, Int.reduceEq, Int.reduceNe, Int.cast_ofNat_Int, Int.natCast_one, Int.natCast_zero, Int.natCast_add, reduceCtorEq, t0, t4, t5, t6, t7, h1, h2]
              rw [hden 10 0 hbase hfrom, hv]
            · rw [if_neg (by omega)] at hv
              simp only [go_sem, ↓reduceIte, Nat.reduceEqDiff, Nat.reduceAdd, Nat.reduceMul, Nat.reduceLT, Nat.reduceLeDiff, Int.reduceLT, Int.reduceLE, Int.reduceNeg, Int.reduceAdd, Int.reduceSub, Int.reduceMul, Int.reduceToNat, Int.reduceEq, Int.reduceNe, Int.cast_ofNat_Int, Int.natCast_one, Int.natCast_zero, Int.natCast_add, reduceCtorEq, t0, t4, t5, t6, t7, h1, h2, wrap64 (show -9223372036854775808 ≤ a * 10 ∧ a * 10 ≤ 9223372036854775807 by omega), wrap64 (show -9223372036854775808 ≤ a * 10 + x ∧ a * 10 + x ≤ 9223372036854775807 by omega)]
              refine fork_dec (fun _ => ?_) (fun _ => ?_)
              · rename_i h3
                rw [if_pos h3] at hv
                simp only [go_sem, ↓reduceIte, Nat.reduceEqDiff, Nat.reduceAdd, Nat.reduceMul, Nat.reduceLT, Nat.reduceLeDiff, Int.reduceLT, Int.reduceLE, Int.reduceNeg, Int.reduceAdd, Int.reduceSub, Int.reduceMul, Int.reduceToNat, Int.reduceEq, Int.reduceNe, Int.cast_ofNat_Int, Int.natCast_one, Int.natCast_zero, Int.natCast_add, reduceCtorEq]
                rw [hden 10 0 hbase hfrom, hv]
              · rename_i h3
                rw [if_neg h3] at hv
                simp only [go_sem, ↓reduceIte, Nat.reduceEqDiff, Nat.reduceAdd, Nat.reduceMul, Nat.reduceLT, Nat.reduceLeDiff, Int.reduceLT, Int.reduceLE, Int.reduceNeg, Int.reduceAdd, Int.reduceSub, Int.reduceMul, Int.reduceToNat, Int.reduceEq, Int.reduceNe, Int.cast_ofNat_Int, Int.natCast_one, Int.natCast_zero, Int.natCast_add, reduceCtorEq, t0, t4, t5, t6, t7, wrap64 (show -9223372036854775808 ≤ (i : Int) + 1 ∧ (i : Int) + 1 ≤ 9223372036854775807 by omega)]
                refine ⟨k - 1, by omega, i + 1, a * 10 + x, by omega, by omega, ?_⟩
                (repeat' (first | exact rfl | apply And.intro))
                · omega
                · omega
                · exact hv
        · rename_i hi
          rw [show l.drop i = [] from List.drop_eq_nil_of_le (by omega), denL] at hv
          rw [hden 10 0 hbase hfrom, hv]
          by_cases hF : (0 : Int) < (l.length : Int)
          · obtain ⟨c0, z0⟩ : ∃ b, l[0]? = some b := ⟨_, List.getElem?_eq_getElem (by omega)⟩
            have hF' : 0 < l.length := by omega
            by_cases h1 : l.length = 1
            · simp only [go_sem, ↓reduceIte, Nat.reduceEqDiff, Nat.reduceAdd, Nat.reduceMul, Nat.reduceLT, Nat.reduceLeDiff, Int.reduceLT, Int.reduceLE, Int.reduceNeg, Int.reduceAdd, Int.reduceSub, Int.reduceMul, Int.reduceToNat, Int.reduceEq, Int.reduceNe, Int.cast_ofNat_Int, Int.natCast_one, Int.natCast_zero, Int.natCast_add, reduceCtorEq, t0, t4, t5, t6, t7, hi, hF, hF', show (l.length : Int) = 1 by omega, h1, z0]
              try simp
            · by_cases h48 : c0 = 48
              · simp only [go_sem, ↓reduceIte, Nat.reduceEqDiff, Nat.reduceAdd, Nat.reduceMul, Nat.reduceLT, Nat.reduceLeDiff, Int.reduceLT, Int.reduceLE, Int.reduceNeg, Int.reduceAdd, Int.reduceSub, Int.reduceMul, Int.reduceToNat, Int.reduceEq, Int.reduceNe, Int.cast_ofNat_Int, Int.natCast_one, Int.natCast_zero, Int.natCast_add, reduceCtorEq, t0, t4, t5, t6, t7, hi, hF, hF', show ¬ (l.length : Int) = 1 by omega, h1, z0, h48, show ((48 : UInt8).toNat : Int) = 48 from rfl]
                try simp
              · simp only [go_sem, ↓reduceIte, Nat.reduceEqDiff, Nat.reduceAdd, Nat.reduceMul, Nat.reduceLT, Nat.reduceLeDiff, Int.reduceLT, Int.reduceLE, Int.reduceNeg, Int.reduceAdd, Int.reduceSub, Int.reduceMul, Int.reduceToNat, Int.reduceEq, Int.reduceNe, Int.cast_ofNat_Int, Int.natCast_one, Int.natCast_zero, Int.natCast_add, reduceCtorEq, t0, t4, t5, t6, t7, hi, hF, hF', show ¬ (l.length : Int) = 1 by omega, h1, z0, h48, b48, Option.some.injEq]
                try simp
          · simp only [go_sem, ↓reduceIte, Nat.reduceEqDiff, Nat.reduceAdd, Nat.reduceMul, Nat.reduceLT, Nat.reduceLeDiff, Int.reduceLT, Int.reduceLE, Int.reduceNeg, Int.reduceAdd, Int.reduceSub, Int.reduceMul, Int.reduceToNat, Int.reduceEq, Int.reduceNe, Int.cast_ofNat_Int, Int.natCast_one, Int.natCast_zero, Int.natCast_add, reduceCtorEq, t0, t4, t5, t6, t7, hi, hF, show ¬ 0 < l.length by omega]
    · simp only [go_sem, ↓reduceIte, Nat.reduceEqDiff, Nat.reduceAdd, Nat.reduceMul, Nat.reduceLT, Nat.reduceLeDiff, Int.reduceLT, Int.reduceLE, Int.reduceNeg, Int.reduceAdd, Int.reduceSub, Int.reduceMul, Int.reduceToNat, Int.reduceEq, Int.reduceNe, Int.cast_ofNat_Int, Int.natCast_one, Int.natCast_zero, Int.natCast_add, reduceCtorEq, show ¬ (2 : Int) < (l.length : Int) by omega]
      refine LW_run (fun k T σ' => ∃ (i : Nat) (a : Int), i + k = l.length ∧ 0 ≤ i ∧ σ' = σ ∧ T 0 = .string (str l) ∧ T 4 = .int .i64 10 ∧ T 5 = .int .i64 0 ∧ T 6 = .int .i64 a ∧ T 7 = .int .i64 i ∧ 0 ≤ a ∧ a < 4294967296 ∧ denL 10 0 (l.drop 0) = denL 10 a (l.drop i)) (l.length - 0) ⟨0, 0, by omega, Nat.le_refl _, rfl, rfl, rfl, rfl, rfl, rfl, by omega, by omega, rfl⟩ ?_
      rintro k T _ ⟨i, a, hk, hfi, rfl, t0, t4, t5, t6, t7, ha0, ha1, hv⟩
      simp only [go_sem, ↓reduceIte, Nat.reduceEqDiff, Nat.reduceAdd, Nat.reduceMul, Nat.reduceLT, Nat.reduceLeDiff, Int.reduceLT, Int.reduceLE, Int.reduceNeg, Int.reduceAdd, Int.reduceSub, Int.reduceMul, Int.reduceToNat, Int.reduceEq, Int.reduceNe, Int.cast_ofNat_Int, Int.natCast_one, Int.natCast_zero, Int.natCast_add, reduceCtorEq, t0, t4, t5, t6, t7]
      refine fork_dec (fun _ => ?_) (fun _ => ?_)
      · rename_i hi
        obtain ⟨b, hb⟩ : ∃ b, l[i]? = some b := ⟨_, List.getElem?_eq_getElem (by omega)⟩
        have hbb := UInt8.toNat_lt b
        have hx := hexv_le (c := (b.toNat : Int)) (by omega)
        rw [denL_at hb] at hv
        simp only [go_sem, ↓reduceIte, Nat.reduceEqDiff, Nat.reduceAdd, Nat.reduceMul, Nat.reduceLT, Nat.reduceLeDiff, Int.reduceLT, Int.reduceLE, Int.reduceNeg, Int.reduceAdd, Int.reduceSub, Int.reduceMul, Int.reduceToNat, Int.reduceEq, Int.reduceNe, Int.cast_ofNat_Int, Int.natCast_one, Int.natCast_zero, Int.natCast_add, reduceCtorEq, t0, t4, t5, t6, t7, hi, hb]
        refine (f103_ok X _ (by omega) _).mono ?_
        rintro _ _ ⟨rfl, rfl⟩
        generalize hexv (b.toNat : Int) = x at *
        by_cases h1 : x < 0
        · rw [if_pos (.inl h1)] at hv
          simp only [go_sem, ↓reduceIte, Nat.reduceEqDiff, Nat.reduceAdd, Nat.reduceMul, Nat.reduceLT, Nat.reduceLeDiff, Int.reduceLT, Int.reduceLE, Int.reduceNeg, Int.reduceAdd, Int.reduceSub, Int.reduceMul, Int.reduceToNat, Int.reduceEq, Int.reduceNe, Int.cast_ofNat_Int, Int.natCast_one, Int.natCast_zero, Int.natCast_add, reduceCtorEq, t0, t4, t5, t6, t7, h1]
          rw [hden 10 0 hbase hfrom, hv]
        · by_cases h2 : (10 : Int) ≤ x
          · rw [if_pos (.inr h2)] at hv
            simp only [go_sem, ↓reduceIte, Nat.reduceEqDiff, Nat.reduceAdd, Nat.reduceMul, Nat.reduceLT, Nat.reduceLeDiff, Int.reduceLT, Int.reduceLE, Int.reduceNeg, Int.reduceAdd, Int.reduceSub, Int.reduceMul, Int.reduceToNat, Int.reduceEq, Int.reduceNe, Int.cast_ofNat_Int, Int.natCast_one, Int.natCast_zero, Int.natCast_add, reduceCtorEq, t0, t4, t5, t6, t7, h1, h2]
            rw [hden 10 0 hbase hfrom, hv]
          · rw [if_neg (by omega)] at hv
            simp only [go_sem, ↓reduceIte, Nat.reduceEqDiff, Nat.reduceAdd, Nat.reduceMul, Nat.reduceLT, Nat.reduceLeDiff, Int.reduceLT, Int.reduceLE, Int.reduceNeg, Int.reduceAdd, Int.reduceSub, Int.reduceMul, Int.reduceToNat, Int.reduceEq, Int.reduceNe, Int.cast_ofNat_Int, Int.natCast_one, Int.natCast_zero, Int.natCast_add, reduceCtorEq, t0, t4, t5, t6, t7, h1, h2, wrap64 (show -9223372036854775808 ≤ a * 10 ∧ a * 10 ≤ 9223372036854775807 by omega), wrap64 (show -9223372036854775808 ≤ a * 10 + x ∧ a * 10 + x ≤ 9223372036854775807 by omega)]
            refine fork_dec (fun _ => ?_) (fun _ => ?_)
            · rename_i h3
              rw [if_pos h3] at hv
              simp only [go_sem, ↓reduceIte, Nat.reduceEqDiff, Nat.reduceAdd, Nat.reduceMul, Nat.reduceLT, Nat.reduceLeDiff, Int.reduceLT, Int.reduceLE, Int.reduceNeg, Int.reduceAdd, Int.reduceSub, Int.reduceMul, Int.reduceToNat, Int.reduceEq, Int.reduceNe, Int.cast_ofNat_Int, Int.natCast_one, Int.natCast_zero, Int.natCast_add, reduceCtorEq]
              rw [hden 10 0 hbase hfrom, hv]
            · rename_i h3
              rw [if_neg h3] at hv
              simp only [go_sem, ↓reduceIte, Nat.reduceEqDiff, Nat.reduceAdd, Nat.reduceMul, Nat.reduceLT, Nat.reduceLeDiff, Int.reduceLT, Int.reduceLE, Int.reduceNeg, Int.reduceAdd, Int.reduceSub, Int.reduceMul, Int.reduceToNat, Int.reduceEq, Int.reduceNe, Int.cast_ofNat_Int, Int.natCast_one, Int.natCast_zero, Int.natCast_add, reduceCtorEq, t0, t4, t5, t6, t7, wrap64 (show -9223372036854775808 ≤ (i : Int) + 1 ∧ (i : Int) + 1 ≤ 9223372036854775807 by omega)]
              refine ⟨k - 1, by omega, i + 1, a * 10 + x, by omega, by omega, ?_⟩
              (repeat' (first | exact rfl | apply And.intro))
              · omega
              · omega
              · exact hv
      · rename_i hi
        rw [show l.drop i = [] from List.drop_eq_nil_of_le (by omega), denL] at hv
        rw [hden 10 0 hbase hfrom, hv]
        by_cases hF : (0 : Int) < (l.length : Int)
        · obtain ⟨c0, z0⟩ : ∃ b, l[0]? = some b := ⟨_, List.getElem?_eq_getElem (by omega)⟩
          have hF' : 0 < l.length := by omega
          by_cases h1 : l.length = 1
          · simp only [go_sem, ↓reduceIte, Nat.reduceEqDiff, Nat.reduceAdd, Nat.reduceMul, Nat.reduceLT, Nat.reduceLeDiff, Int.reduceLT, Int.reduceLE, Int.reduceNeg, Int.reduceAdd, Int.reduceSub, Int.reduceMul, Int.reduceToNat, Int.reduceEq, Int.reduceNe, Int.cast_ofNat_Int, Int.natCast_one, Int.natCast_zero, Int.natCast_add, reduceCtorEq, t0, t4, t5, t6, t7, hi, hF, hF', show (l.length : Int) = 1 by omega, h1, z0]
            try simp
          · by_cases h48 : c0 = 48
            · simp only [go_sem, ↓reduceIte, Nat.reduceEqDiff, Nat.reduceAdd, Nat.reduceMul, Nat.reduceLT, Nat.reduceLeDiff, Int.reduceLT, Int.reduceLE, Int.reduceNeg, Int.reduceAdd, Int.reduceSub, Int.reduceMul, Int.reduceToNat, Int.reduceEq, Int.reduceNe, Int.cast_ofNat_Int, Int.natCast_one, Int.natCast_zero, Int.natCast_add, reduceCtorEq, t0, t4, t5, t6, t7, hi, hF, hF', show ¬ (l.length : Int) = 1 by omega, h1, z0, h48, show ((48 : UInt8).toNat : Int) = 48 from rfl]
              try simp
            · simp only [go_sem, ↓reduceIte, Nat.reduceEqDiff, Nat.reduceAdd, Nat.reduceMul, Nat.reduceLT, Nat.reduceLeDiff, Int.reduceLT, Int.reduceLE, Int.reduceNeg, Int.reduceAdd, Int.reduceSub, Int.reduceMul, Int.reduceToNat, Int.reduceEq, Int.reduceNe, Int.cast_ofNat_Int, Int.natCast_one, Int.natCast_zero, Int.natCast_add, reduceCtorEq, t0, t4, t5, t6, t7, hi, hF, hF', show ¬ (l.length : Int) = 1 by omega, h1, z0, h48, b48, Option.some.injEq]
              try simp
        · simp only [go_sem, ↓reduceIte, Nat.reduceEqDiff, Nat.reduceAdd, Nat.reduceMul, Nat.reduceLT, Nat.reduceLeDiff, Int.reduceLT, Int.reduceLE, Int.reduceNeg, Int.reduceAdd, Int.reduceSub, Int.reduceMul, Int.reduceToNat, Int.reduceEq, Int.reduceNe, Int.cast_ofNat_Int, Int.natCast_one, Int.natCast_zero, Int.natCast_add, reduceCtorEq, t0, t4, t5, t6, t7, hi, hF, show ¬ 0 < l.length by omega]
end Go.Proofs.YtkgdkommahgakaaDoor.Abs

namespace Go.Proofs.YtkgdkommahgakaaDoor.Abs
open Go Go.RowKit
set_option linter.unusedVariables false
set_option linter.unusedSimpArgs false
set_option maxRecDepth 100000

set_option maxHeartbeats 1000000 in
theorem lib116 (s : ByteArray) (c : Int) (w : World) : Calls Tryd.prog 116 #[.string s, .int .u8 c] w fun e w' => e = .returned (.int .i64 (Lib.indexByte s.data.toList c.toNat.toUInt8)) ∧ w' = w := by
  go_enter Tryd.func116, Tryd.ntmps116
  go_wp2
  rw [run_callFunc_extern Tryd.func123 (by kernel_rfl) (by kernel_rfl) (by kernel_rfl) (e := Extern.BytealgIndexByte.indexByte) (by kernel_rfl), Lib.run_indexByteString]
  simp only [Result.andThen]
  rw [Oper.upon_value]
  go_wp2
  go_ret
  exact ⟨rfl, rfl⟩
/-- Functions that the machine's own entries stand behind. -/
def XL : Ext := fun f args σ v σ' => f = 116 ∧ ∃ (l : List UInt8) (b : UInt8), args = [.string (str l), .int .u8 (b.toNat : Int)] ∧ v = .int .i64 (Lib.indexByte l b) ∧ σ' = σ
theorem XL_sound : ∀ f args σ v σ', XL f args σ v σ' → ∀ base, CallSound Tryd.prog base f args σ v σ' ∧ σ.length ≤ σ'.length := by
  rintro f args σ v σ' ⟨rfl, l, b, rfl, rfl, rfl⟩ base
  refine ⟨fun β w cargs hrel hs hf => ?_, Nat.le_refl _⟩
  obtain ⟨cl⟩ := cargs
  simp only at hrel
  obtain ⟨x, y, rfl, h, h2⟩ : ∃ x y, cl = [x, y] ∧ Rel β (.string (str l)) x ∧ Rel β (.int .u8 (b.toNat : Int)) y := by
    match cl, hrel with
    | [x, y], .cons _ _ _ _ h (.cons _ _ _ _ h2 .nil) => exact ⟨x, y, rfl, h, h2⟩
  obtain rfl := h.string_inv
  obtain rfl := h2.int_inv
  refine (lib116 _ _ w).mono fun e w' hh => ?_
  obtain ⟨rfl, rfl⟩ := hh
  refine ⟨β, _, rfl, ?_, hs, Step.refl _ _ _⟩
  simp
  exact .scal _ rfl
theorem f116_ok (l : List UInt8) (b : UInt8) (σ : Heap) : CW Tryd.prog XL 116 [.string (str l), .int .u8 (b.toNat : Int)] σ fun v σ' => v = .int .i64 (Lib.indexByte l b) ∧ σ' = σ :=
  ⟨by kernel_rfl, _, _, .ext ⟨rfl, l, b, rfl, rfl, rfl⟩, rfl, rfl⟩
theorem f100_ok (l : List UInt8) (b : UInt8) (σ : Heap) : CW Tryd.prog XL 100 [.string (str l), .int .u8 (b.toNat : Int)] σ fun v σ' => v = .int .i64 (Lib.indexByte l b) ∧ σ' = σ := by
  refine cw_in Tryd.func100 rfl Tryd.ntmps100 (rs := [.tmp 4]) rfl (by kernel_rfl) (by exact Nat.le_of_ble_eq_true rfl) ?_
  simp only [go_sem, ↓reduceIte, Nat.reduceEqDiff, Nat.reduceAdd, Nat.reduceMul, Nat.reduceLT, Nat.reduceLeDiff, Int.reduceLT, Int.reduceLE, Int.reduceNeg, Int.reduceAdd, Int.reduceSub, Int.reduceMul, Int.reduceToNat, Int.reduceEq, Int.reduceNe, Int.cast_ofNat_Int, Int.natCast_one, Int.natCast_zero, Int.natCast_add, reduceCtorEq]
  refine (f116_ok l b _).mono ?_
  rintro _ _ ⟨rfl, rfl⟩
  simp only [go_sem, ↓reduceIte, Nat.reduceEqDiff, Nat.reduceAdd, Nat.reduceMul, Nat.reduceLT, Nat.reduceLeDiff, Int.reduceLT, Int.reduceLE, Int.reduceNeg, Int.reduceAdd, Int.reduceSub, Int.reduceMul, Int.reduceToNat, Int.reduceEq, Int.reduceNe, Int.cast_ofNat_Int, Int.natCast_one, Int.natCast_zero, Int.natCast_add, reduceCtorEq]
theorem index_mem : ∀ (l : List UInt8) (b : UInt8), 0 ≤ Lib.indexByte l b ↔ b ∈ l
  | [], b => by simp [Lib.indexByte]
  | c :: l, b => by
    have ih := index_mem l b
    have hg := Lib.indexByte_ge l b
    unfold Lib.indexByte
    by_cases h : c = b
    · subst h; simp
    · have h1 : (c == b) = false := by simpa using h
      simp only [h1, Bool.false_eq_true, if_false, List.mem_cons, Ne.symm h, false_or]
      rw [← ih]
      split
      · rename_i h2
        have : Lib.indexByte l b = -1 := by simpa using h2
        omega
      · rename_i h2
        have : Lib.indexByte l b ≠ -1 := by simpa using h2
        omega

theorem ends_ct {P : Program} {T : Tm} {σ : Heap} {a b : Tmp} {t : TypeId} : aresults P T σ [.cell a t, .tmp b] = (aload P σ t (T a)).map fun v => .tuple #[v, T b] := by
  simp only [aresults, List.mapM_cons, List.mapM_nil, aresult]
  cases aload P σ t (T a) <;> rfl
theorem ends_cc {P : Program} {T : Tm} {σ : Heap} {a b : Tmp} {t u : TypeId} : aresults P T σ [.cell a t, .cell b u] = (aload P σ t (T a)).bind fun v => (aload P σ u (T b)).map fun w => .tuple #[v, w] := by
  simp only [aresults, List.mapM_cons, List.mapM_nil, aresult]
  cases aload P σ t (T a) with
  | none => rfl
  | some x => cases aload P σ u (T b) <;> rfl
attribute [go_sem ↓] ends_ct ends_cc

/-! ### a sign at the beginning -/
def single : List UInt8 := [43, 45, 42, 47, 37, 38, 124, 94, 126, 40, 41, 44, 58, 61, 64]
def signAt (l : List UInt8) : List UInt8 :=
  if 2 ≤ l.length ∧ (l.take 2 = [60, 60] ∨ l.take 2 = [62, 62]) then l.take 2 else if ∃ b, l.head? = some b ∧ b ∈ single then l.take 1 else []
set_option maxHeartbeats 1000000 in
theorem f69_ok (l : List UInt8) (hs : l.length ≤ 140737488351232) (σ : Heap) : CW Tryd.prog XL 69 [.string (str l)] σ fun v σ' => v = .string (str (signAt l)) ∧ σ' = σ := by
  refine cw_in Tryd.func69 rfl Tryd.ntmps69 (rs := [.tmp 2]) rfl (by kernel_rfl) (by exact Nat.le_of_ble_eq_true rfl) ?_
  have c1 : List.take 2 (List.drop 0 ([60, 60, 62, 62] : List UInt8)) = [60, 60] := rfl
  have c2 : List.take (4 - 2) (List.drop 2 ([60, 60, 62, 62] : List UInt8)) = [62, 62] := rfl
  by_cases h2 : 2 ≤ l.length
  · have h2i : (2 : Int) ≤ (l.length : Int) := by omega
    simp only [go_sem, ↓reduceIte, Nat.reduceEqDiff, Nat.reduceAdd, Nat.reduceMul, Nat.reduceLT, Nat.reduceLeDiff, Int.reduceLT, Int.reduceLE, Int.reduceNeg, Int.reduceAdd, Int.reduceSub, Int.reduceMul, Int.reduceToNat, Int.reduceEq, Int.reduceNe, Int.cast_ofNat_Int, Int.natCast_one, Int.natCast_zero, Int.natCast_add, reduceCtorEq, h2i, c1, c2]
    by_cases h3 : l.take 2 = [60, 60]
    · simp only [go_sem, ↓reduceIte, Nat.reduceEqDiff, Nat.reduceAdd, Nat.reduceMul, Nat.reduceLT, Nat.reduceLeDiff, Int.reduceLT, Int.reduceLE, Int.reduceNeg, Int.reduceAdd, Int.reduceSub, Int.reduceMul, Int.reduceToNat, Int.reduceEq, Int.reduceNe, Int.cast_ofNat_Int, Int.natCast_one, Int.natCast_zero, Int.natCast_add, reduceCtorEq, h3, h2i]
      rw [signAt, if_pos ⟨h2, .inl h3⟩, h3]
    · simp only [go_sem, ↓reduceIte, Nat.reduceEqDiff, Nat.reduceAdd, Nat.reduceMul, Nat.reduceLT, Nat.reduceLeDiff, Int.reduceLT, Int.reduceLE, Int.reduceNeg, Int.reduceAdd, Int.reduceSub, Int.reduceMul, Int.reduceToNat, Int.reduceEq, Int.reduceNe, Int.cast_ofNat_Int, Int.natCast_one, Int.natCast_zero, Int.natCast_add, reduceCtorEq, h3, h2i, Nat.sub_zero, c2]
      by_cases h4 : l.take 2 = [62, 62]
      · simp only [go_sem, ↓reduceIte, Nat.reduceEqDiff, Nat.reduceAdd, Nat.reduceMul, Nat.reduceLT, Nat.reduceLeDiff, Int.reduceLT, Int.reduceLE, Int.reduceNeg, Int.reduceAdd, Int.reduceSub, Int.reduceMul, Int.reduceToNat, Int.reduceEq, Int.reduceNe, Int.cast_ofNat_Int, Int.natCast_one, Int.natCast_zero, Int.natCast_add, reduceCtorEq, h4, h2i, Nat.sub_zero]
        rw [signAt, if_pos ⟨h2, .inr h4⟩, h4]
      · simp only [go_sem, ↓reduceIte, Nat.reduceEqDiff, Nat.reduceAdd, Nat.reduceMul, Nat.reduceLT, Nat.reduceLeDiff, Int.reduceLT, Int.reduceLE, Int.reduceNeg, Int.reduceAdd, Int.reduceSub, Int.reduceMul, Int.reduceToNat, Int.reduceEq, Int.reduceNe, Int.cast_ofNat_Int, Int.natCast_one, Int.natCast_zero, Int.natCast_add, reduceCtorEq, h4]
        have hsig : signAt l = if ∃ b, l.head? = some b ∧ b ∈ single then l.take 1 else [] := by
          rw [signAt, if_neg (fun h => h.2.elim h3 h4)]
        cases hl : l with
        | nil =>
          simp only [go_sem, ↓reduceIte, Nat.reduceEqDiff, Nat.reduceAdd, Nat.reduceMul, Nat.reduceLT, Nat.reduceLeDiff, Int.reduceLT, Int.reduceLE, Int.reduceNeg, Int.reduceAdd, Int.reduceSub, Int.reduceMul, Int.reduceToNat, Int.reduceEq, Int.reduceNe, Int.cast_ofNat_Int, Int.natCast_one, Int.natCast_zero, Int.natCast_add, reduceCtorEq]
          rfl
        | cons b r =>
          have hx := index_mem single b
          simp only [go_sem, ↓reduceIte, Nat.reduceEqDiff, Nat.reduceAdd, Nat.reduceMul, Nat.reduceLT, Nat.reduceLeDiff, Int.reduceLT, Int.reduceLE, Int.reduceNeg, Int.reduceAdd, Int.reduceSub, Int.reduceMul, Int.reduceToNat, Int.reduceEq, Int.reduceNe, Int.cast_ofNat_Int, Int.natCast_one, Int.natCast_zero, Int.natCast_add, reduceCtorEq, hl, show ¬ (b :: r = []) by simp]
          refine (f100_ok single b σ).mono ?_
          rintro _ _ ⟨rfl, rfl⟩
          simp only [go_sem, ↓reduceIte, Nat.reduceEqDiff, Nat.reduceAdd, Nat.reduceMul, Nat.reduceLT, Nat.reduceLeDiff, Int.reduceLT, Int.reduceLE, Int.reduceNeg, Int.reduceAdd, Int.reduceSub, Int.reduceMul, Int.reduceToNat, Int.reduceEq, Int.reduceNe, Int.cast_ofNat_Int, Int.natCast_one, Int.natCast_zero, Int.natCast_add, reduceCtorEq, hl]
          by_cases hm : b ∈ single
          · rw [hl] at hsig
            simp only [go_sem, ↓reduceIte, Nat.reduceEqDiff, Nat.reduceAdd, Nat.reduceMul, Nat.reduceLT, Nat.reduceLeDiff, Int.reduceLT, Int.reduceLE, Int.reduceNeg, Int.reduceAdd, Int.reduceSub, Int.reduceMul, Int.reduceToNat, Int.reduceEq, Int.reduceNe, Int.cast_ofNat_Int, Int.natCast_one, Int.natCast_zero, Int.natCast_add, reduceCtorEq, hx.2 hm, show (1 : Int) ≤ ((r.length : Int) + 1) by omega]
            rw [hsig, if_pos ⟨b, rfl, hm⟩]
            rfl
          · rw [hl] at hsig
            simp only [go_sem, ↓reduceIte, Nat.reduceEqDiff, Nat.reduceAdd, Nat.reduceMul, Nat.reduceLT, Nat.reduceLeDiff, Int.reduceLT, Int.reduceLE, Int.reduceNeg, Int.reduceAdd, Int.reduceSub, Int.reduceMul, Int.reduceToNat, Int.reduceEq, Int.reduceNe, Int.cast_ofNat_Int, Int.natCast_one, Int.natCast_zero, Int.natCast_add, reduceCtorEq, show ¬ 0 ≤ Lib.indexByte single b from fun h => hm (hx.1 h)]
            rw [hsig, if_neg]
            rintro ⟨b', hb', hm'⟩
            simp at hb'
            subst hb'
            exact hm hm'
  · simp only [go_sem, ↓reduceIte, Nat.reduceEqDiff, Nat.reduceAdd, Nat.reduceMul, Nat.reduceLT, Nat.reduceLeDiff, Int.reduceLT, Int.reduceLE, Int.reduceNeg, Int.reduceAdd, Int.reduceSub, Int.reduceMul, Int.reduceToNat, Int.reduceEq, Int.reduceNe, Int.cast_ofNat_Int, Int.natCast_one, Int.natCast_zero, Int.natCast_add, reduceCtorEq, show ¬ (2 : Int) ≤ (l.length : Int) by omega]
    have hsig : signAt l = if ∃ b, l.head? = some b ∧ b ∈ single then l.take 1 else [] := by
      rw [signAt, if_neg (fun h => h2 h.1)]
    cases hl : l with
    | nil =>
      simp only [go_sem, ↓reduceIte, Nat.reduceEqDiff, Nat.reduceAdd, Nat.reduceMul, Nat.reduceLT, Nat.reduceLeDiff, Int.reduceLT, Int.reduceLE, Int.reduceNeg, Int.reduceAdd, Int.reduceSub, Int.reduceMul, Int.reduceToNat, Int.reduceEq, Int.reduceNe, Int.cast_ofNat_Int, Int.natCast_one, Int.natCast_zero, Int.natCast_add, reduceCtorEq]
      rfl
    | cons b r =>
      have hx := index_mem single b
      simp only [go_sem, ↓reduceIte, Nat.reduceEqDiff, Nat.reduceAdd, Nat.reduceMul, Nat.reduceLT, Nat.reduceLeDiff, Int.reduceLT, Int.reduceLE, Int.reduceNeg, Int.reduceAdd, Int.reduceSub, Int.reduceMul, Int.reduceToNat, Int.reduceEq, Int.reduceNe, Int.cast_ofNat_Int, Int.natCast_one, Int.natCast_zero, Int.natCast_add, reduceCtorEq, hl, show ¬ (b :: r = []) by simp]
      refine (f100_ok single b σ).mono ?_
      rintro _ _ ⟨rfl, rfl⟩
      simp only [go_sem, ↓reduceIte, Nat.reduceEqDiff, Nat.reduceAdd, Nat.reduceMul, Nat.reduceLT, Nat.reduceLeDiff, Int.reduceLT, Int.reduceLE, Int.reduceNeg, Int.reduceAdd, Int.reduceSub, Int.reduceMul, Int.reduceToNat, Int.reduceEq, Int.reduceNe, Int.cast_ofNat_Int, Int.natCast_one, Int.natCast_zero, Int.natCast_add, reduceCtorEq, hl]
      by_cases hm : b ∈ single
      · rw [hl] at hsig
        simp only [go_sem, ↓reduceIte, Nat.reduceEqDiff, Nat.reduceAdd, Nat.reduceMul, Nat.reduceLT, Nat.reduceLeDiff, Int.reduceLT, Int.reduceLE, Int.reduceNeg, Int.reduceAdd, Int.reduceSub, Int.reduceMul, Int.reduceToNat, Int.reduceEq, Int.reduceNe, Int.cast_ofNat_Int, Int.natCast_one, Int.natCast_zero, Int.natCast_add, reduceCtorEq, hx.2 hm, show (1 : Int) ≤ ((r.length : Int) + 1) by omega]
        rw [hsig, if_pos ⟨b, rfl, hm⟩]
        rfl
      · rw [hl] at hsig
        simp only [go_sem, ↓reduceIte, Nat.reduceEqDiff, Nat.reduceAdd, Nat.reduceMul, Nat.reduceLT, Nat.reduceLeDiff, Int.reduceLT, Int.reduceLE, Int.reduceNeg, Int.reduceAdd, Int.reduceSub, Int.reduceMul, Int.reduceToNat, Int.reduceEq, Int.reduceNe, Int.cast_ofNat_Int, Int.natCast_one, Int.natCast_zero, Int.natCast_add, reduceCtorEq, show ¬ 0 ≤ Lib.indexByte single b from fun h => hm (hx.1 h)]
        rw [hsig, if_neg]
        rintro ⟨b', hb', hm'⟩
        simp at hb'
        subst hb'
        exact hm hm'
end Go.Proofs.YtkgdkommahgakaaDoor.Abs

namespace Go.Proofs.YtkgdkommahgakaaDoor.Abs
open Go Go.RowKit
set_option linter.unusedVariables false
set_option linter.unusedSimpArgs false
set_option maxRecDepth 100000

/-! ### tokens: the plain law -/
structure Tk where
  kind : Int
  text : List UInt8
  value : Int
  at_ : Int
deriving DecidableEq
def Tk.cells (x : Tk) : List Value := [.int .i64 x.kind, .string (str x.text), .int .i64 x.value, .int .i64 x.at_]
def validT (x : Tk) : Bool :=
  if x.kind = 1 then nameOk x.text && decide (x.value = 0)
  else if x.kind = 2 then decide (x.text = []) && (decide (0 ≤ x.value) && decide (x.value < 4294967296))
  else if x.kind = 3 then decide (x.text ∈ signs) && decide (x.value = 0)
  else false
def tokOf (l : List UInt8) : Tk × Bool :=
  if l ∈ signs then (⟨3, l, 0, 0⟩, true) else if (den l).2 = true then (⟨2, [], (den l).1, 0⟩, true) else if nameOk l = true then (⟨1, l, 0, 0⟩, true) else (⟨0, [], 0, 0⟩, false)
def textOf (x : Tk) : List UInt8 := if x.kind = 2 then num x.value else x.text
def isTok (x : Tk) : Bool :=
  if x.kind = 2 ∧ ¬ (0 ≤ x.value ∧ x.value ≤ 4294967295) then false
  else (tokOf (textOf x)).2 && (decide ((tokOf (textOf x)).1.kind = x.kind) && (decide ((tokOf (textOf x)).1.text = x.text) && decide ((tokOf (textOf x)).1.value = x.value)))

theorem signs_single : ∀ l ∈ signs, l.length = 1 ∨ l.length = 2 := by decide
theorem signAt_iff (l : List UInt8) : (l ≠ [] ∧ signAt l = l) ↔ l ∈ signs := by
  constructor
  · rintro ⟨hne, h⟩
    unfold signAt at h
    split at h
    · rename_i hc
      obtain ⟨h2, h3⟩ := hc
      rw [← h]
      rcases h3 with h3 | h3 <;> rw [h3] <;> decide
    · split at h
      · rename_i hc
        obtain ⟨b, hb, hm⟩ := hc
        cases l with
        | nil => simp at hb
        | cons c r =>
          simp only [List.head?_cons, Option.some.injEq] at hb
          subst hb
          simp only [List.take_succ_cons, List.take_zero, List.cons.injEq, true_and] at h
          subst h
          have : ∀ c ∈ single, [c] ∈ signs := by decide
          exact this c hm
      · exact absurd h.symm hne
  · intro h
    have : ∀ l ∈ signs, l ≠ [] ∧ signAt l = l := by
      intro l hl
      have h1 : ∀ l ∈ signs, l ≠ [] := by decide
      refine ⟨h1 l hl, ?_⟩
      unfold signAt
      by_cases hc : 2 ≤ l.length ∧ (l.take 2 = [60, 60] ∨ l.take 2 = [62, 62])
      · rw [if_pos hc]
        have := signs_single l hl
        exact List.take_of_length_le (by omega)
      · rw [if_neg hc]
        have h2 : ∀ l ∈ signs, ¬ (2 ≤ l.length ∧ (l.take 2 = [60, 60] ∨ l.take 2 = [62, 62])) → (l.head?.any fun b => decide (b ∈ single)) = true ∧ l.length = 1 := by decide
        obtain ⟨h3, h4⟩ := h2 l hl hc
        rw [if_pos, List.take_of_length_le (by omega)]
        cases l with
        | nil => simp at h4
        | cons c r => exact ⟨c, rfl, by simpa using h3⟩
    exact this l h
theorem sign_name {l : List UInt8} (h : l ∈ signs) : nameOk l = false := by
  have : ∀ l ∈ signs, nameOk l = false := by decide
  exact this l h
theorem dig_hex {b : UInt8} : digB b = true ↔ 0 ≤ hexv b.toNat ∧ hexv b.toNat < 10 := by
  have := UInt8.toNat_lt b
  unfold digB dig hexv
  simp only [decide_eq_true_eq]
  constructor
  · intro h
    rw [if_pos h]
    omega
  · intro h
    split at h
    · assumption
    · split at h
      · omega
      · split at h <;> omega
/-- A name is no number. -/
theorem name_den {l : List UInt8} (h : nameOk l = true) : (den l).2 = false := by
  cases l with
  | nil => simp [nameOk] at h
  | cons b r =>
    simp only [nameOk, List.head?_cons, Option.any_some, Bool.and_eq_true, Bool.not_eq_true'] at h
    have hd := h.2.2.2
    have h48 : b ≠ 48 := by
      rintro rfl
      revert hd
      decide
    have hy : hexy (b :: r) = false := by
      unfold hexy
      simp [h48]
    have e1 : denB (b :: r) = 10 := by rw [denB, hy]; rfl
    have e2 : denF (b :: r) = 0 := by rw [denF, hy]; rfl
    unfold den
    rw [e1, e2]
    simp only [List.drop_zero, denL]
    have hb := UInt8.toNat_lt b
    have hx := hexv_le (c := (b.toNat : Int)) (by omega)
    rw [if_pos]
    have : ¬ digB b = true := by rw [hd]; simp
    rw [dig_hex] at this
    omega
theorem denL_append (base : Int) : ∀ (l m : List UInt8) (a : Int), denL base a (l ++ m) = (denL base a l).bind fun n => denL base n m
  | [], m, a => rfl
  | b :: l, m, a => by
    rw [List.cons_append, denL, denL]
    split
    · rfl
    · split
      · rfl
      · exact denL_append base l m _
theorem hexv_dec (n : Nat) (h : n < 10) : hexv ((UInt8.ofNat (48 + n)).toNat : Int) = n := by
  have : ∀ n : Fin 10, hexv ((UInt8.ofNat (48 + n.val)).toNat : Int) = n.val := by decide
  exact this ⟨n, h⟩
theorem denL_dec : ∀ (n : Nat), n < 4294967296 → denL 10 0 (dec n) = some (n : Int) := by
  intro n
  induction n using Nat.strongRecOn with
  | _ n ih =>
    intro hn
    unfold dec
    split
    · rename_i h
      simp only [denL, hexv_dec n h]
      rw [if_neg (by omega), if_neg (by omega)]
      simp
    · rename_i h
      rw [denL_append, ih (n / 10) (by omega) (by omega)]
      simp only [Option.bind_some, denL, hexv_dec (n % 10) (Nat.mod_lt _ (by omega))]
      rw [if_neg (by omega), if_neg (by omega)]
      congr 1
      omega
theorem dec_ne (n : Nat) : dec n ≠ [] := by
  unfold dec
  split <;> simp
theorem dec_digs : ∀ (n : Nat), ∀ b ∈ dec n, digB b = true := by
  intro n
  induction n using Nat.strongRecOn with
  | _ n ih =>
    intro b hb
    have one : ∀ m, m < 10 → digB (UInt8.ofNat (48 + m)) = true := fun m hm => by
      rw [dig_hex, hexv_dec m hm]; omega
    unfold dec at hb
    split at hb
    · rename_i h
      rw [List.mem_singleton] at hb
      rw [hb]
      exact one n h
    · rename_i h
      rcases List.mem_append.1 hb with hb | hb
      · exact ih (n / 10) (by omega) b hb
      · rw [List.mem_singleton] at hb
        rw [hb]
        exact one (n % 10) (by omega)
theorem dec_head : ∀ (n : Nat), 1 ≤ n → (dec n)[0]? ≠ some 48 := by
  intro n
  induction n using Nat.strongRecOn with
  | _ n ih =>
    intro hn
    unfold dec
    split
    · rename_i h
      have : ∀ n : Fin 10, 1 ≤ n.val → ([UInt8.ofNat (48 + n.val)] : List UInt8)[0]? ≠ some 48 := by decide
      exact this ⟨n, h⟩ hn
    · rename_i h
      have := dec_ne (n / 10)
      rw [List.getElem?_append_left (by cases hd : dec (n / 10) with | nil => exact absurd hd this | cons => simp)]
      exact ih (n / 10) (by omega) (by omega)
/-- A number's decimal digits denote it. -/
theorem den_dec {n : Nat} (hn : n < 4294967296) : den (dec n) = ((n : Int), true) := by
  have hy : hexy (dec n) = false := by
    unfold hexy
    cases h1 : (dec n)[1]? with
    | none => simp
    | some b =>
      have := dec_digs n b (List.mem_of_getElem? h1)
      have h120 : b ≠ 120 := by
        rintro rfl
        revert this
        decide
      simp [h120]
  have e1 : denB (dec n) = 10 := by rw [denB, hy]; rfl
  have e2 : denF (dec n) = 0 := by rw [denF, hy]; rfl
  unfold den
  rw [e1, e2, List.drop_zero, denL_dec n hn]
  simp only
  have hpos : 0 < (dec n).length := by
    cases hd : dec n with
    | nil => exact absurd hd (dec_ne n)
    | cons => simp
  rw [decide_eq_true hpos]
  by_cases h0 : n = 0
  · subst h0
    have : dec 0 = [48] := by rw [dec]; rfl
    rw [this]
    rfl
  · have := dec_head n (by omega)
    simp [this]
theorem dec_sign (n : Nat) : dec n ∉ signs := by
  intro h
  have h1 : ∀ l ∈ signs, (l.all digB) = false := by decide
  have := h1 _ h
  rw [List.all_eq_false] at this
  obtain ⟨b, hb, hd⟩ := this
  exact hd (dec_digs n b hb)
/-- **Both say the same of a token.** -/
theorem isTok_eq (x : Tk) : isTok x = validT x := by
  unfold isTok validT
  by_cases h2 : x.kind = 2
  · rw [if_neg (show ¬ x.kind = 1 by omega), if_pos h2]
    by_cases hv : 0 ≤ x.value ∧ x.value ≤ 4294967295
    · rw [if_neg (by simp [hv])]
      obtain ⟨m, hm⟩ : ∃ m : Nat, x.value = m := ⟨x.value.toNat, by omega⟩
      have e : textOf x = dec m := by
        rw [textOf, if_pos h2, num, if_neg (by omega), hm]
        rfl
      rw [e, tokOf, if_neg (dec_sign m), den_dec (by omega)]
      simp only [if_true, h2, hm, decide_true, Bool.true_and]
      rw [decide_eq_true (show 0 ≤ (m : Int) by omega), decide_eq_true (show (m : Int) < 4294967296 by omega)]
      simp only [Bool.and_true]
      exact decide_eq_decide.2 ⟨fun h => h.symm, fun h => h.symm⟩
    · rw [if_pos ⟨h2, hv⟩]
      symm
      by_cases h0 : 0 ≤ x.value
      · rw [decide_eq_false (show ¬ x.value < 4294967296 by omega)]
        simp
      · rw [decide_eq_false h0]
        simp
  · rw [if_neg (by simp [h2])]
    have e : textOf x = x.text := by rw [textOf, if_neg h2]
    rw [e, if_neg (show ¬ x.kind = 2 from h2)]
    unfold tokOf
    by_cases hs : x.text ∈ signs
    · rw [if_pos hs]
      simp only [Bool.true_and, decide_true]
      by_cases h1 : x.kind = 1
      · rw [if_pos h1, sign_name hs]
        simp [h1]
      · rw [if_neg h1]
        by_cases h3 : x.kind = 3
        · rw [if_pos h3, decide_eq_true hs, h3]
          simp [eq_comm]
        · rw [if_neg h3]
          simp [Ne.symm h3]
    · rw [if_neg hs]
      by_cases hd : (den x.text).2 = true
      · rw [if_pos hd]
        simp only [Bool.true_and]
        rw [decide_eq_false (show ¬ (2 : Int) = x.kind from fun h => h2 h.symm)]
        simp only [Bool.false_and]
        by_cases h1 : x.kind = 1
        · rw [if_pos h1]
          cases hn : nameOk x.text with
          | false => rfl
          | true => rw [name_den hn] at hd; simp at hd
        · rw [if_neg h1, decide_eq_false hs]
          simp
      · rw [if_neg hd]
        by_cases hn : nameOk x.text = true
        · rw [if_pos hn, hn]
          simp only [Bool.true_and, decide_true]
          by_cases h1 : x.kind = 1
          · rw [if_pos h1, h1]
            simp [eq_comm]
          · rw [if_neg h1, decide_eq_false hs, decide_eq_false (show ¬ (1 : Int) = x.kind from fun h => h1 h.symm)]
            simp
        · rw [if_neg hn]
          have hn' : nameOk x.text = false := by simpa using hn
          rw [hn', decide_eq_false hs]
          simp

/-! ### tokens: the walks -/
set_option maxHeartbeats 1000000 in
theorem f46_ok (x : Tk) (hs : x.text.length ≤ 140737488351232) (σ : Heap) : CW Tryd.prog XL 46 [.agg x.cells.toArray] σ fun v σ' => v = .bool (validT x) ∧ σ <+: σ' := by
  refine cw_in Tryd.func46 rfl Tryd.ntmps46 (rs := [.tmp 2]) rfl (by kernel_rfl) (by exact Nat.le_of_ble_eq_true rfl) ?_
  unfold validT
  by_cases h1 : x.kind = 1
  · simp only [go_sem, ↓reduceIte, Nat.reduceEqDiff, Nat.reduceAdd, Nat.reduceMul, Nat.reduceLT, Nat.reduceLeDiff, Int.reduceLT, Int.reduceLE, Int.reduceNeg, Int.reduceAdd, Int.reduceSub, Int.reduceMul, Int.reduceToNat, Int.reduceEq, Int.reduceNe, Int.cast_ofNat_Int, Int.natCast_one, Int.natCast_zero, Int.natCast_add, reduceCtorEq, Tk.cells, h1]
    refine (f55_ok _ x.text hs _).mono ?_
    rintro _ _ ⟨rfl, rfl⟩
    cases hn : nameOk x.text <;> simp only [go_sem, ↓reduceIte, Nat.reduceEqDiff, Nat.reduceAdd, Nat.reduceMul, Nat.reduceLT, Nat.reduceLeDiff, Int.reduceLT, Int.reduceLE, Int.reduceNeg, Int.reduceAdd, Int.reduceSub, Int.reduceMul, Int.reduceToNat, Int.reduceEq, Int.reduceNe, Int.cast_ofNat_Int, Int.natCast_one, Int.natCast_zero, Int.natCast_add, reduceCtorEq, hn] <;> exact List.prefix_append _ _
  · by_cases h2 : x.kind = 2
    · simp only [go_sem, ↓reduceIte, Nat.reduceEqDiff, Nat.reduceAdd, Nat.reduceMul, Nat.reduceLT, Nat.reduceLeDiff, Int.reduceLT, Int.reduceLE, Int.reduceNeg, Int.reduceAdd, Int.reduceSub, Int.reduceMul, Int.reduceToNat, Int.reduceEq, Int.reduceNe, Int.cast_ofNat_Int, Int.natCast_one, Int.natCast_zero, Int.natCast_add, reduceCtorEq, Tk.cells, h1, h2]
      by_cases h3 : x.text = []
      · simp only [go_sem, ↓reduceIte, Nat.reduceEqDiff, Nat.reduceAdd, Nat.reduceMul, Nat.reduceLT, Nat.reduceLeDiff, Int.reduceLT, Int.reduceLE, Int.reduceNeg, Int.reduceAdd, Int.reduceSub, Int.reduceMul, Int.reduceToNat, Int.reduceEq, Int.reduceNe, Int.cast_ofNat_Int, Int.natCast_one, Int.natCast_zero, Int.natCast_add, reduceCtorEq, h3]
        by_cases h4 : 0 ≤ x.value
        · simp only [go_sem, ↓reduceIte, Nat.reduceEqDiff, Nat.reduceAdd, Nat.reduceMul, Nat.reduceLT, Nat.reduceLeDiff, Int.reduceLT, Int.reduceLE, Int.reduceNeg, Int.reduceAdd, Int.reduceSub, Int.reduceMul, Int.reduceToNat, Int.reduceEq, Int.reduceNe, Int.cast_ofNat_Int, Int.natCast_one, Int.natCast_zero, Int.natCast_add, reduceCtorEq, h3, h4]
          exact List.prefix_append _ _
        · simp only [go_sem, ↓reduceIte, Nat.reduceEqDiff, Nat.reduceAdd, Nat.reduceMul, Nat.reduceLT, Nat.reduceLeDiff, Int.reduceLT, Int.reduceLE, Int.reduceNeg, Int.reduceAdd, Int.reduceSub, Int.reduceMul, Int.reduceToNat, Int.reduceEq, Int.reduceNe, Int.cast_ofNat_Int, Int.natCast_one, Int.natCast_zero, Int.natCast_add, reduceCtorEq, h3, h4]
          exact List.prefix_append _ _
      · simp only [go_sem, ↓reduceIte, Nat.reduceEqDiff, Nat.reduceAdd, Nat.reduceMul, Nat.reduceLT, Nat.reduceLeDiff, Int.reduceLT, Int.reduceLE, Int.reduceNeg, Int.reduceAdd, Int.reduceSub, Int.reduceMul, Int.reduceToNat, Int.reduceEq, Int.reduceNe, Int.cast_ofNat_Int, Int.natCast_one, Int.natCast_zero, Int.natCast_add, reduceCtorEq, h3]
        exact List.prefix_append _ _
    · by_cases h3 : x.kind = 3
      · simp only [go_sem, ↓reduceIte, Nat.reduceEqDiff, Nat.reduceAdd, Nat.reduceMul, Nat.reduceLT, Nat.reduceLeDiff, Int.reduceLT, Int.reduceLE, Int.reduceNeg, Int.reduceAdd, Int.reduceSub, Int.reduceMul, Int.reduceToNat, Int.reduceEq, Int.reduceNe, Int.cast_ofNat_Int, Int.natCast_one, Int.natCast_zero, Int.natCast_add, reduceCtorEq, Tk.cells, h1, h2, h3]
        have hsg := signAt_iff x.text
        by_cases h4 : x.text = []
        · simp only [go_sem, ↓reduceIte, Nat.reduceEqDiff, Nat.reduceAdd, Nat.reduceMul, Nat.reduceLT, Nat.reduceLeDiff, Int.reduceLT, Int.reduceLE, Int.reduceNeg, Int.reduceAdd, Int.reduceSub, Int.reduceMul, Int.reduceToNat, Int.reduceEq, Int.reduceNe, Int.cast_ofNat_Int, Int.natCast_one, Int.natCast_zero, Int.natCast_add, reduceCtorEq, h4, show ¬ ([] : List UInt8) ∈ signs by decide]
          exact List.prefix_append _ _
        · simp only [go_sem, ↓reduceIte, Nat.reduceEqDiff, Nat.reduceAdd, Nat.reduceMul, Nat.reduceLT, Nat.reduceLeDiff, Int.reduceLT, Int.reduceLE, Int.reduceNeg, Int.reduceAdd, Int.reduceSub, Int.reduceMul, Int.reduceToNat, Int.reduceEq, Int.reduceNe, Int.cast_ofNat_Int, Int.natCast_one, Int.natCast_zero, Int.natCast_add, reduceCtorEq, h4]
          refine (f69_ok x.text hs _).mono ?_
          rintro _ _ ⟨rfl, rfl⟩
          by_cases h5 : signAt x.text = x.text
          · simp only [go_sem, ↓reduceIte, Nat.reduceEqDiff, Nat.reduceAdd, Nat.reduceMul, Nat.reduceLT, Nat.reduceLeDiff, Int.reduceLT, Int.reduceLE, Int.reduceNeg, Int.reduceAdd, Int.reduceSub, Int.reduceMul, Int.reduceToNat, Int.reduceEq, Int.reduceNe, Int.cast_ofNat_Int, Int.natCast_one, Int.natCast_zero, Int.natCast_add, reduceCtorEq, h4, h5, hsg.1 ⟨h4, h5⟩]
            exact List.prefix_append _ _
          · simp only [go_sem, ↓reduceIte, Nat.reduceEqDiff, Nat.reduceAdd, Nat.reduceMul, Nat.reduceLT, Nat.reduceLeDiff, Int.reduceLT, Int.reduceLE, Int.reduceNeg, Int.reduceAdd, Int.reduceSub, Int.reduceMul, Int.reduceToNat, Int.reduceEq, Int.reduceNe, Int.cast_ofNat_Int, Int.natCast_one, Int.natCast_zero, Int.natCast_add, reduceCtorEq, h4, h5, show ¬ x.text ∈ signs from fun h => h5 (hsg.2 h).2]
            exact List.prefix_append _ _
      · simp only [go_sem, ↓reduceIte, Nat.reduceEqDiff, Nat.reduceAdd, Nat.reduceMul, Nat.reduceLT, Nat.reduceLeDiff, Int.reduceLT, Int.reduceLE, Int.reduceNeg, Int.reduceAdd, Int.reduceSub, Int.reduceMul, Int.reduceToNat, Int.reduceEq, Int.reduceNe, Int.cast_ofNat_Int, Int.natCast_one, Int.natCast_zero, Int.natCast_add, reduceCtorEq, Tk.cells, h1, h2, h3]
        exact List.prefix_append _ _
set_option maxHeartbeats 1000000 in
theorem f48_ok (X : Ext) (l : List UInt8) (hs : l.length ≤ 140737488351232) (σ : Heap) : CW Tryd.prog X 48 [.string (str l)] σ fun v σ' => v = .tuple #[.agg (tokOf l).1.cells.toArray, .bool (tokOf l).2] ∧ σ <+: σ' := by
  refine cw_in Tryd.func48 rfl Tryd.ntmps48 (rs := [.cell 2 31, .tmp 3]) rfl (by kernel_rfl) (by exact Nat.le_of_ble_eq_true rfl) ?_
  unfold tokOf
  simp only [go_sem, ↓reduceIte, Nat.reduceEqDiff, Nat.reduceAdd, Nat.reduceMul, Nat.reduceLT, Nat.reduceLeDiff, Int.reduceLT, Int.reduceLE, Int.reduceNeg, Int.reduceAdd, Int.reduceSub, Int.reduceMul, Int.reduceToNat, Int.reduceEq, Int.reduceNe, Int.cast_ofNat_Int, Int.natCast_one, Int.natCast_zero, Int.natCast_add, reduceCtorEq]
  refine (f75_ok X l _).mono ?_
  rintro _ _ ⟨rfl, τ, rfl⟩
  simp only [go_sem, ↓reduceIte, Nat.reduceEqDiff, Nat.reduceAdd, Nat.reduceMul, Nat.reduceLT, Nat.reduceLeDiff, Int.reduceLT, Int.reduceLE, Int.reduceNeg, Int.reduceAdd, Int.reduceSub, Int.reduceMul, Int.reduceToNat, Int.reduceEq, Int.reduceNe, Int.cast_ofNat_Int, Int.natCast_one, Int.natCast_zero, Int.natCast_add, reduceCtorEq]
  refine fork_dec (fun _ => ?_) (fun _ => ?_)
  · rename_i h
    simp only [go_sem, ↓reduceIte, Nat.reduceEqDiff, Nat.reduceAdd, Nat.reduceMul, Nat.reduceLT, Nat.reduceLeDiff, Int.reduceLT, Int.reduceLE, Int.reduceNeg, Int.reduceAdd, Int.reduceSub, Int.reduceMul, Int.reduceToNat, Int.reduceEq, Int.reduceNe, Int.cast_ofNat_Int, Int.natCast_one, Int.natCast_zero, Int.natCast_add, reduceCtorEq, h, Tk.cells]
    exact List.prefix_append _ _
  · rename_i h
    simp only [go_sem, ↓reduceIte, Nat.reduceEqDiff, Nat.reduceAdd, Nat.reduceMul, Nat.reduceLT, Nat.reduceLeDiff, Int.reduceLT, Int.reduceLE, Int.reduceNeg, Int.reduceAdd, Int.reduceSub, Int.reduceMul, Int.reduceToNat, Int.reduceEq, Int.reduceNe, Int.cast_ofNat_Int, Int.natCast_one, Int.natCast_zero, Int.natCast_add, reduceCtorEq, h]
    refine (f76_ok X l hs _).mono ?_
    rintro _ _ ⟨rfl, rfl⟩
    simp only [go_sem, ↓reduceIte, Nat.reduceEqDiff, Nat.reduceAdd, Nat.reduceMul, Nat.reduceLT, Nat.reduceLeDiff, Int.reduceLT, Int.reduceLE, Int.reduceNeg, Int.reduceAdd, Int.reduceSub, Int.reduceMul, Int.reduceToNat, Int.reduceEq, Int.reduceNe, Int.cast_ofNat_Int, Int.natCast_one, Int.natCast_zero, Int.natCast_add, reduceCtorEq]
    cases hd : (den l).2 with
    | true =>
      simp only [go_sem, ↓reduceIte, Nat.reduceEqDiff, Nat.reduceAdd, Nat.reduceMul, Nat.reduceLT, Nat.reduceLeDiff, Int.reduceLT, Int.reduceLE, Int.reduceNeg, Int.reduceAdd, Int.reduceSub, Int.reduceMul, Int.reduceToNat, Int.reduceEq, Int.reduceNe, Int.cast_ofNat_Int, Int.natCast_one, Int.natCast_zero, Int.natCast_add, reduceCtorEq, Tk.cells]
      exact List.prefix_append _ _
    | false =>
      simp only [go_sem, ↓reduceIte, Nat.reduceEqDiff, Nat.reduceAdd, Nat.reduceMul, Nat.reduceLT, Nat.reduceLeDiff, Int.reduceLT, Int.reduceLE, Int.reduceNeg, Int.reduceAdd, Int.reduceSub, Int.reduceMul, Int.reduceToNat, Int.reduceEq, Int.reduceNe, Int.cast_ofNat_Int, Int.natCast_one, Int.natCast_zero, Int.natCast_add, reduceCtorEq]
      refine (f54_ok X l hs _).mono ?_
      rintro _ _ ⟨rfl, rfl⟩
      cases hn : nameOk l <;> simp only [go_sem, ↓reduceIte, Nat.reduceEqDiff, Nat.reduceAdd, Nat.reduceMul, Nat.reduceLT, Nat.reduceLeDiff, Int.reduceLT, Int.reduceLE, Int.reduceNeg, Int.reduceAdd, Int.reduceSub, Int.reduceMul, Int.reduceToNat, Int.reduceEq, Int.reduceNe, Int.cast_ofNat_Int, Int.natCast_one, Int.natCast_zero, Int.natCast_add, reduceCtorEq, hn, Tk.cells] <;> exact List.prefix_append _ _
set_option maxHeartbeats 1000000 in
theorem f49_ok (X : Ext) (x : Tk) (hv : -9223372036854775808 ≤ x.value ∧ x.value ≤ 9223372036854775807) (σ : Heap) : CW Tryd.prog X 49 [.agg x.cells.toArray] σ fun v σ' => v = .string (str (textOf x)) ∧ σ <+: σ' := by
  refine cw_in Tryd.func49 rfl Tryd.ntmps49 (rs := [.tmp 2]) rfl (by kernel_rfl) (by exact Nat.le_of_ble_eq_true rfl) ?_
  unfold textOf
  by_cases h2 : x.kind = 2
  · simp only [go_sem, ↓reduceIte, Nat.reduceEqDiff, Nat.reduceAdd, Nat.reduceMul, Nat.reduceLT, Nat.reduceLeDiff, Int.reduceLT, Int.reduceLE, Int.reduceNeg, Int.reduceAdd, Int.reduceSub, Int.reduceMul, Int.reduceToNat, Int.reduceEq, Int.reduceNe, Int.cast_ofNat_Int, Int.natCast_one, Int.natCast_zero, Int.natCast_add, reduceCtorEq, Tk.cells, h2]
    refine (f77_ok X x.value hv _).mono ?_
    rintro _ _ ⟨rfl, rfl⟩
    simp only [go_sem, ↓reduceIte, Nat.reduceEqDiff, Nat.reduceAdd, Nat.reduceMul, Nat.reduceLT, Nat.reduceLeDiff, Int.reduceLT, Int.reduceLE, Int.reduceNeg, Int.reduceAdd, Int.reduceSub, Int.reduceMul, Int.reduceToNat, Int.reduceEq, Int.reduceNe, Int.cast_ofNat_Int, Int.natCast_one, Int.natCast_zero, Int.natCast_add, reduceCtorEq]
    exact List.prefix_append _ _
  · simp only [go_sem, ↓reduceIte, Nat.reduceEqDiff, Nat.reduceAdd, Nat.reduceMul, Nat.reduceLT, Nat.reduceLeDiff, Int.reduceLT, Int.reduceLE, Int.reduceNeg, Int.reduceAdd, Int.reduceSub, Int.reduceMul, Int.reduceToNat, Int.reduceEq, Int.reduceNe, Int.cast_ofNat_Int, Int.natCast_one, Int.natCast_zero, Int.natCast_add, reduceCtorEq, Tk.cells, h2]
    exact List.prefix_append _ _
theorem num_len {n : Int} (h : -9223372036854775808 ≤ n ∧ n ≤ 9223372036854775807) : (num n).length ≤ 21 := by
  unfold num
  split
  · have := dec_len 19 (-n).toNat (by omega)
    simp
    omega
  · have := dec_len 19 n.toNat (by omega)
    omega
set_option maxHeartbeats 1000000 in
theorem f19_ok (X : Ext) (x : Tk) (hs : x.text.length ≤ 140737488351232) (hv : -9223372036854775808 ≤ x.value ∧ x.value ≤ 9223372036854775807) (σ : Heap) : CW Tryd.prog X 19 [.agg x.cells.toArray] σ fun v σ' => v = .bool (validT x) ∧ σ <+: σ' := by
  rw [← isTok_eq]
  refine cw_in Tryd.func19 rfl Tryd.ntmps19 (rs := [.tmp 2]) rfl (by kernel_rfl) (by exact Nat.le_of_ble_eq_true rfl) ?_
  have ht : (textOf x).length ≤ 140737488351232 := by
    unfold textOf
    split
    · have := num_len hv; omega
    · exact hs
  by_cases h2 : x.kind = 2
  · have h2' : decide (x.kind = 2) = true := decide_eq_true h2
    simp only [go_sem, ↓reduceIte, Nat.reduceEqDiff, Nat.reduceAdd, Nat.reduceMul, Nat.reduceLT, Nat.reduceLeDiff, Int.reduceLT, Int.reduceLE, Int.reduceNeg, Int.reduceAdd, Int.reduceSub, Int.reduceMul, Int.reduceToNat, Int.reduceEq, Int.reduceNe, Int.cast_ofNat_Int, Int.natCast_one, Int.natCast_zero, Int.natCast_add, reduceCtorEq, Tk.cells, h2']
    refine (f22_ok X _ 0 4294967295 _).mono ?_
    rintro _ _ ⟨rfl, rfl⟩
    by_cases hr : 0 ≤ x.value ∧ x.value ≤ 4294967295
    · simp only [go_sem, ↓reduceIte, Nat.reduceEqDiff, Nat.reduceAdd, Nat.reduceMul, Nat.reduceLT, Nat.reduceLeDiff, Int.reduceLT, Int.reduceLE, Int.reduceNeg, Int.reduceAdd, Int.reduceSub, Int.reduceMul, Int.reduceToNat, Int.reduceEq, Int.reduceNe, Int.cast_ofNat_Int, Int.natCast_one, Int.natCast_zero, Int.natCast_add, reduceCtorEq, h2', hr]
      have hno : ¬ (x.kind = 2 ∧ ¬ (0 ≤ x.value ∧ x.value ≤ 4294967295)) := by simp [hr]
      refine (f49_ok X x hv _).mono ?_
      rintro _ _ ⟨rfl, τ, rfl⟩
      simp only [go_sem, ↓reduceIte, Nat.reduceEqDiff, Nat.reduceAdd, Nat.reduceMul, Nat.reduceLT, Nat.reduceLeDiff, Int.reduceLT, Int.reduceLE, Int.reduceNeg, Int.reduceAdd, Int.reduceSub, Int.reduceMul, Int.reduceToNat, Int.reduceEq, Int.reduceNe, Int.cast_ofNat_Int, Int.natCast_one, Int.natCast_zero, Int.natCast_add, reduceCtorEq]
      refine (f48_ok X (textOf x) ht _).mono ?_
      rintro _ _ ⟨rfl, τ2, rfl⟩
      have hi : isTok x = ((tokOf (textOf x)).2 && (decide ((tokOf (textOf x)).1.kind = x.kind) && (decide ((tokOf (textOf x)).1.text = x.text) && decide ((tokOf (textOf x)).1.value = x.value)))) := by
        rw [isTok, if_neg hno]
      rw [hi]
      generalize (tokOf (textOf x)).1 = y
      cases (tokOf (textOf x)).2 with
      | false =>
        simp only [go_sem, ↓reduceIte, Nat.reduceEqDiff, Nat.reduceAdd, Nat.reduceMul, Nat.reduceLT, Nat.reduceLeDiff, Int.reduceLT, Int.reduceLE, Int.reduceNeg, Int.reduceAdd, Int.reduceSub, Int.reduceMul, Int.reduceToNat, Int.reduceEq, Int.reduceNe, Int.cast_ofNat_Int, Int.natCast_one, Int.natCast_zero, Int.natCast_add, reduceCtorEq, Tk.cells]
        exact List.prefix_append _ _
      | true =>
        by_cases k1 : y.kind = x.kind
        · by_cases k2 : y.text = x.text
          · simp only [go_sem, ↓reduceIte, Nat.reduceEqDiff, Nat.reduceAdd, Nat.reduceMul, Nat.reduceLT, Nat.reduceLeDiff, Int.reduceLT, Int.reduceLE, Int.reduceNeg, Int.reduceAdd, Int.reduceSub, Int.reduceMul, Int.reduceToNat, Int.reduceEq, Int.reduceNe, Int.cast_ofNat_Int, Int.natCast_one, Int.natCast_zero, Int.natCast_add, reduceCtorEq, Tk.cells, k1, k2]
            exact List.prefix_append _ _
          · simp only [go_sem, ↓reduceIte, Nat.reduceEqDiff, Nat.reduceAdd, Nat.reduceMul, Nat.reduceLT, Nat.reduceLeDiff, Int.reduceLT, Int.reduceLE, Int.reduceNeg, Int.reduceAdd, Int.reduceSub, Int.reduceMul, Int.reduceToNat, Int.reduceEq, Int.reduceNe, Int.cast_ofNat_Int, Int.natCast_one, Int.natCast_zero, Int.natCast_add, reduceCtorEq, Tk.cells, k1, k2]
            exact List.prefix_append _ _
        · simp only [go_sem, ↓reduceIte, Nat.reduceEqDiff, Nat.reduceAdd, Nat.reduceMul, Nat.reduceLT, Nat.reduceLeDiff, Int.reduceLT, Int.reduceLE, Int.reduceNeg, Int.reduceAdd, Int.reduceSub, Int.reduceMul, Int.reduceToNat, Int.reduceEq, Int.reduceNe, Int.cast_ofNat_Int, Int.natCast_one, Int.natCast_zero, Int.natCast_add, reduceCtorEq, Tk.cells, k1]
          exact List.prefix_append _ _
    · simp only [go_sem, ↓reduceIte, Nat.reduceEqDiff, Nat.reduceAdd, Nat.reduceMul, Nat.reduceLT, Nat.reduceLeDiff, Int.reduceLT, Int.reduceLE, Int.reduceNeg, Int.reduceAdd, Int.reduceSub, Int.reduceMul, Int.reduceToNat, Int.reduceEq, Int.reduceNe, Int.cast_ofNat_Int, Int.natCast_one, Int.natCast_zero, Int.natCast_add, reduceCtorEq, h2', hr]
      have hi : isTok x = false := by rw [isTok, if_pos ⟨h2, hr⟩]
      rw [hi]
      exact ⟨rfl, List.prefix_append _ _⟩
  · simp only [go_sem, ↓reduceIte, Nat.reduceEqDiff, Nat.reduceAdd, Nat.reduceMul, Nat.reduceLT, Nat.reduceLeDiff, Int.reduceLT, Int.reduceLE, Int.reduceNeg, Int.reduceAdd, Int.reduceSub, Int.reduceMul, Int.reduceToNat, Int.reduceEq, Int.reduceNe, Int.cast_ofNat_Int, Int.natCast_one, Int.natCast_zero, Int.natCast_add, reduceCtorEq, Tk.cells, h2]
    have hno : ¬ (x.kind = 2 ∧ ¬ (0 ≤ x.value ∧ x.value ≤ 4294967295)) := by simp [h2]
    refine (f49_ok X x hv _).mono ?_
    rintro _ _ ⟨rfl, τ, rfl⟩
    simp only [go_sem, ↓reduceIte, Nat.reduceEqDiff, Nat.reduceAdd, Nat.reduceMul, Nat.reduceLT, Nat.reduceLeDiff, Int.reduceLT, Int.reduceLE, Int.reduceNeg, Int.reduceAdd, Int.reduceSub, Int.reduceMul, Int.reduceToNat, Int.reduceEq, Int.reduceNe, Int.cast_ofNat_Int, Int.natCast_one, Int.natCast_zero, Int.natCast_add, reduceCtorEq]
    refine (f48_ok X (textOf x) ht _).mono ?_
    rintro _ _ ⟨rfl, τ2, rfl⟩
    have hi : isTok x = ((tokOf (textOf x)).2 && (decide ((tokOf (textOf x)).1.kind = x.kind) && (decide ((tokOf (textOf x)).1.text = x.text) && decide ((tokOf (textOf x)).1.value = x.value)))) := by
      rw [isTok, if_neg hno]
    rw [hi]
    generalize (tokOf (textOf x)).1 = y
    cases (tokOf (textOf x)).2 with
    | false =>
      simp only [go_sem, ↓reduceIte, Nat.reduceEqDiff, Nat.reduceAdd, Nat.reduceMul, Nat.reduceLT, Nat.reduceLeDiff, Int.reduceLT, Int.reduceLE, Int.reduceNeg, Int.reduceAdd, Int.reduceSub, Int.reduceMul, Int.reduceToNat, Int.reduceEq, Int.reduceNe, Int.cast_ofNat_Int, Int.natCast_one, Int.natCast_zero, Int.natCast_add, reduceCtorEq, Tk.cells]
      exact List.prefix_append _ _
    | true =>
      by_cases k1 : y.kind = x.kind
      · by_cases k2 : y.text = x.text
        · simp only [go_sem, ↓reduceIte, Nat.reduceEqDiff, Nat.reduceAdd, Nat.reduceMul, Nat.reduceLT, Nat.reduceLeDiff, Int.reduceLT, Int.reduceLE, Int.reduceNeg, Int.reduceAdd, Int.reduceSub, Int.reduceMul, Int.reduceToNat, Int.reduceEq, Int.reduceNe, Int.cast_ofNat_Int, Int.natCast_one, Int.natCast_zero, Int.natCast_add, reduceCtorEq, Tk.cells, k1, k2]
          exact List.prefix_append _ _
        · simp only [go_sem, ↓reduceIte, Nat.reduceEqDiff, Nat.reduceAdd, Nat.reduceMul, Nat.reduceLT, Nat.reduceLeDiff, Int.reduceLT, Int.reduceLE, Int.reduceNeg, Int.reduceAdd, Int.reduceSub, Int.reduceMul, Int.reduceToNat, Int.reduceEq, Int.reduceNe, Int.cast_ofNat_Int, Int.natCast_one, Int.natCast_zero, Int.natCast_add, reduceCtorEq, Tk.cells, k1, k2]
          exact List.prefix_append _ _
      · simp only [go_sem, ↓reduceIte, Nat.reduceEqDiff, Nat.reduceAdd, Nat.reduceMul, Nat.reduceLT, Nat.reduceLeDiff, Int.reduceLT, Int.reduceLE, Int.reduceNeg, Int.reduceAdd, Int.reduceSub, Int.reduceMul, Int.reduceToNat, Int.reduceEq, Int.reduceNe, Int.cast_ofNat_Int, Int.natCast_one, Int.natCast_zero, Int.natCast_add, reduceCtorEq, Tk.cells, k1]
        exact List.prefix_append _ _
end Go.Proofs.YtkgdkommahgakaaDoor.Abs
