import Derived.Test.YtkgdkommahgakaaDoorVali
namespace Go.Proofs.YtkgdkommahgakaaDoor.Abs
open Go Go.RowKit Gram
set_option linter.unusedVariables false
set_option linter.unusedSimpArgs false
set_option maxRecDepth 100000

/-! ### linear values -/
structure Lin where
  sym : List UInt8
  minus : List UInt8
  num : Int
deriving DecidableEq
def Lin.cells (x : Lin) : List Value := [.string (str x.sym), .string (str x.minus), .int .i64 x.num]
def Lin.zero : Lin := ⟨[], [], 0⟩
def Lin.flat (x : Lin) : Bool := decide (x.sym = []) && decide (x.minus = [])
theorem f82_ok (X : Ext) (x : Lin) (σ : Heap) : CW Tryd.prog X 82 [.agg x.cells.toArray] σ fun v σ' => v = .bool x.flat ∧ σ <+: σ' := by
  refine cw_in Tryd.func82 rfl Tryd.ntmps82 (rs := [.tmp 2]) rfl (by kernel_rfl) (by exact Nat.le_of_ble_eq_true rfl) ?_
  unfold Lin.flat
  by_cases h1 : x.sym = []
  · simp only [go_sem, ↓reduceIte, Nat.reduceEqDiff, Nat.reduceAdd, Nat.reduceMul, Nat.reduceLT, Nat.reduceLeDiff, Int.reduceLT, Int.reduceLE, Int.reduceNeg, Int.reduceAdd, Int.reduceSub, Int.reduceMul, Int.reduceToNat, Int.reduceEq, Int.reduceNe, Int.cast_ofNat_Int, Int.natCast_one, Int.natCast_zero, Int.natCast_add, reduceCtorEq, Lin.cells, h1]
    exact List.prefix_append _ _
  · simp only [go_sem, ↓reduceIte, Nat.reduceEqDiff, Nat.reduceAdd, Nat.reduceMul, Nat.reduceLT, Nat.reduceLeDiff, Int.reduceLT, Int.reduceLE, Int.reduceNeg, Int.reduceAdd, Int.reduceSub, Int.reduceMul, Int.reduceToNat, Int.reduceEq, Int.reduceNe, Int.cast_ofNat_Int, Int.natCast_one, Int.natCast_zero, Int.natCast_add, reduceCtorEq, Lin.cells, h1]
    exact List.prefix_append _ _
/-- A name against the subtracted ones: what is left of each. -/
def cancel (s m0 m1 : List UInt8) : List UInt8 × List UInt8 × List UInt8 := if s = [] then (s, m0, m1) else if m0 = s then ([], [], m1) else if m1 = s then ([], m0, []) else (s, m0, m1)
def turn (b : Lin) (sign : Int) : Lin := if sign < 0 then ⟨b.minus, b.sym, -b.num⟩ else b
def sumL (a b : Lin) : Option Lin :=
  let c := cancel a.sym a.minus b.minus
  let d := cancel b.sym c.2.1 c.2.2
  if (c.1 ≠ [] ∧ d.1 ≠ []) ∨ (d.2.1 ≠ [] ∧ d.2.2 ≠ []) then none else some ⟨c.1 ++ d.1, d.2.1 ++ d.2.2, a.num + b.num⟩
def addL (a b : Lin) (sign : Int) : Option Lin := sumL a (turn b sign)
/-- Numbers and names that don't go too far. -/
def Lin.small (x : Lin) : Prop := x.sym.length ≤ 1000 ∧ x.minus.length ≤ 1000 ∧ -1099511627776 ≤ x.num ∧ x.num ≤ 1099511627776
theorem cancel_len {s m0 m1 : List UInt8} {k : Nat} (h : s.length ≤ k ∧ m0.length ≤ k ∧ m1.length ≤ k) : (cancel s m0 m1).1.length ≤ k ∧ (cancel s m0 m1).2.1.length ≤ k ∧ (cancel s m0 m1).2.2.length ≤ k := by
  unfold cancel
  repeat' split
  all_goals simp <;> omega
theorem idx_two (m0 m1 s : List UInt8) : idx [m0, m1] s = if m0 = s then 0 else if m1 = s then 1 else -1 := by
  simp only [idx]
  split
  · rfl
  · split <;> simp

def addHeap (σ : Heap) (A B O : Option Blk) (p0 p1 m0 m1 : List UInt8) : Heap := σ ++ [A, B, O, some ⟨[.string (str p0), .string (str p1)], true, 1⟩, some ⟨[.string (str m0), .string (str m1)], true, 1⟩]
/-- How far the cancelling is. -/
def stage (a c : Lin) (i : Nat) (p0 p1 m0 m1 : List UInt8) : Prop :=
  (i = 0 ∧ p0 = a.sym ∧ p1 = c.sym ∧ m0 = a.minus ∧ m1 = c.minus) ∨
  (i = 1 ∧ (p0, m0, m1) = cancel a.sym a.minus c.minus ∧ p1 = c.sym) ∨
  (i = 2 ∧ ∃ n0 n1, (p0, n0, n1) = cancel a.sym a.minus c.minus ∧ (p1, m0, m1) = cancel c.sym n0 n1)
theorem stage_len {a c : Lin} {i : Nat} {p0 p1 m0 m1 : List UInt8} (h : stage a c i p0 p1 m0 m1) (ha : a.sym.length ≤ 1000 ∧ a.minus.length ≤ 1000) (hc : c.sym.length ≤ 1000 ∧ c.minus.length ≤ 1000) : p0.length ≤ 1000 ∧ p1.length ≤ 1000 ∧ m0.length ≤ 1000 ∧ m1.length ≤ 1000 := by
  have h1 := cancel_len (s := a.sym) (m0 := a.minus) (m1 := c.minus) (k := 1000) ⟨ha.1, ha.2, hc.2⟩
  rcases h with ⟨_, rfl, rfl, rfl, rfl⟩ | ⟨_, h, rfl⟩ | ⟨_, n0, n1, h, h2⟩
  · exact ⟨ha.1, hc.1, ha.2, hc.2⟩
  · rw [← h] at h1
    exact ⟨h1.1, hc.1, h1.2.1, h1.2.2⟩
  · rw [← h] at h1
    have h3 := cancel_len (s := c.sym) (m0 := n0) (m1 := n1) (k := 1000) ⟨hc.1, h1.2.1, h1.2.2⟩
    rw [← h2] at h3
    exact ⟨h1.1, h3.1, h3.2.1, h3.2.2⟩
set_option maxHeartbeats 2000000 in
theorem f81_ok (X : Ext) (a b : Lin) (sign : Int) (ha : a.small) (hb : b.small) (σ : Heap) : CW Tryd.prog X 81 [.agg a.cells.toArray, .agg b.cells.toArray, .int .i64 sign] σ fun v σ' =>
    v = .tuple #[.agg ((addL a b sign).getD Lin.zero).cells.toArray, .bool (addL a b sign).isSome] ∧ σ <+: σ' := by
  obtain ⟨a1, a2, a3, a4⟩ := ha
  obtain ⟨b1, b2, b3, b4⟩ := hb
  refine cw_in Tryd.func81 rfl Tryd.ntmps81 (rs := [.cell 6 40, .tmp 7]) rfl (by kernel_rfl) (by exact Nat.le_of_ble_eq_true rfl) ?_
  by_cases hs : sign < 0
  · obtain ⟨c, hc⟩ : ∃ c, turn b sign = c := ⟨_, rfl⟩
    have hc1 : c = ⟨b.minus, b.sym, 0 - b.num⟩ := by rw [← hc, turn, if_pos hs]; simp
    have hcl : c.sym.length ≤ 1000 ∧ c.minus.length ≤ 1000 := by rw [hc1]; exact ⟨b2, b1⟩
    have hcn : -1099511627776 ≤ c.num ∧ c.num ≤ 1099511627776 := by rw [hc1]; simp only; omega
    simp only [go_sem, ↓reduceIte, Nat.reduceEqDiff, Nat.reduceAdd, Nat.reduceMul, Nat.reduceLT, Nat.reduceLeDiff, Int.reduceLT, Int.reduceLE, Int.reduceNeg, Int.reduceAdd, Int.reduceSub, Int.reduceMul, Int.reduceToNat, Int.reduceEq, Int.reduceNe, Int.cast_ofNat_Int, Int.natCast_one, Int.natCast_zero, Int.natCast_add, reduceCtorEq, Lin.cells, hs, wrap64 (show -9223372036854775808 ≤ 0 - b.num ∧ 0 - b.num ≤ 9223372036854775807 by omega)]
    have hadd : addL a b sign = sumL a c := by rw [addL, hc]
    rw [hadd]
    clear hadd
    refine LW_run (fun k T ρ => ∃ (i : Nat) (p0 p1 m0 m1 : List UInt8), i + k = 2 ∧ stage a c i p0 p1 m0 m1 ∧ ρ = addHeap σ (some ⟨a.cells, true, 0⟩) (some ⟨c.cells, true, 0⟩) (some ⟨Lin.zero.cells, true, 0⟩) p0 p1 m0 m1
      ∧ T 3 = .pointer (some ⟨σ.length, 0, none⟩) ∧ T 4 = .pointer (some ⟨σ.length + 1, 0, none⟩) ∧ T 6 = .pointer (some ⟨σ.length + 2, 0, none⟩) ∧ T 8 = .slice (some ⟨σ.length + 3, 0, none⟩) 2 2 ∧ T 9 = .slice (some ⟨σ.length + 4, 0, none⟩) 2 2 ∧ T 33 = .slice (some ⟨σ.length + 3, 0, none⟩) 2 2 ∧ T 34 = .int .i64 2 ∧ T 35 = .int .i64 i) 2
      ⟨0, a.sym, c.sym, a.minus, c.minus, rfl, .inl ⟨rfl, rfl, rfl, rfl, rfl⟩, by rw [hc1]; rfl, rfl, rfl, rfl, rfl, rfl, rfl, rfl, rfl⟩ ?_
    rintro k T ρ ⟨i, p0, p1, m0, m1, hk, hst, rfl, t3, t4, t6, t8, t9, t33, t34, t35⟩
    have hlen := stage_len hst ⟨a1, a2⟩ hcl
    rcases hst with ⟨rfl, rfl, rfl, rfl, rfl⟩ | ⟨rfl, h1, rfl⟩ | ⟨rfl, n0, n1, h1, h2⟩
    · simp only [go_sem, ↓reduceIte, Nat.reduceEqDiff, Nat.reduceAdd, Nat.reduceMul, Nat.reduceLT, Nat.reduceLeDiff, Int.reduceLT, Int.reduceLE, Int.reduceNeg, Int.reduceAdd, Int.reduceSub, Int.reduceMul, Int.reduceToNat, Int.reduceEq, Int.reduceNe, Int.cast_ofNat_Int, Int.natCast_one, Int.natCast_zero, Int.natCast_add, reduceCtorEq, addHeap, t3, t4, t6, t8, t9, t33, t34, t35]
      refine (f102_ok X [a.minus, c.minus] a.sym _ 0 2 true 1 _ (by rw [look_app_add]; rfl) (by simp)).mono ?_
      rintro _ _ ⟨rfl, rfl⟩
      rw [idx_two]
      by_cases e1 : a.sym = []
      · have hcc : cancel a.sym a.minus c.minus = (a.sym, a.minus, c.minus) := by rw [cancel, if_pos e1]
        simp only [go_sem, ↓reduceIte, Nat.reduceEqDiff, Nat.reduceAdd, Nat.reduceMul, Nat.reduceLT, Nat.reduceLeDiff, Int.reduceLT, Int.reduceLE, Int.reduceNeg, Int.reduceAdd, Int.reduceSub, Int.reduceMul, Int.reduceToNat, Int.reduceEq, Int.reduceNe, Int.cast_ofNat_Int, Int.natCast_one, Int.natCast_zero, Int.natCast_add, reduceCtorEq, t3, t4, t6, t8, t9, t33, t34, t35, eq_true e1, show IntKind.i64.wrap 1 = 1 by decide, show IntKind.i64.wrap 2 = 2 by decide]
        refine ⟨k - 1, by omega, 1, a.sym, c.sym, a.minus, c.minus, by omega, .inr (.inl ⟨rfl, hcc.symm, rfl⟩), ?_⟩
        (repeat' (first | exact rfl | apply And.intro))
      · by_cases e2 : a.minus = a.sym
        · have hcc : cancel a.sym a.minus c.minus = ([], [], c.minus) := by rw [cancel, if_neg e1, if_pos e2]
          simp only [go_sem, ↓reduceIte, Nat.reduceEqDiff, Nat.reduceAdd, Nat.reduceMul, Nat.reduceLT, Nat.reduceLeDiff, Int.reduceLT, Int.reduceLE, Int.reduceNeg, Int.reduceAdd, Int.reduceSub, Int.reduceMul, Int.reduceToNat, Int.reduceEq, Int.reduceNe, Int.cast_ofNat_Int, Int.natCast_one, Int.natCast_zero, Int.natCast_add, reduceCtorEq, t3, t4, t6, t8, t9, t33, t34, t35, eq_false e1, eq_true e2, show IntKind.i64.wrap 1 = 1 by decide, show IntKind.i64.wrap 2 = 2 by decide]
          refine ⟨k - 1, by omega, 1, [], c.sym, [], c.minus, by omega, .inr (.inl ⟨rfl, hcc.symm, rfl⟩), ?_⟩
          (repeat' (first | exact rfl | apply And.intro))
        · by_cases e3 : c.minus = a.sym
          · have hcc : cancel a.sym a.minus c.minus = ([], a.minus, []) := by rw [cancel, if_neg e1, if_neg e2, if_pos e3]
            simp only [go_sem, ↓reduceIte, Nat.reduceEqDiff, Nat.reduceAdd, Nat.reduceMul, Nat.reduceLT, Nat.reduceLeDiff, Int.reduceLT, Int.reduceLE, Int.reduceNeg, Int.reduceAdd, Int.reduceSub, Int.reduceMul, Int.reduceToNat, Int.reduceEq, Int.reduceNe, Int.cast_ofNat_Int, Int.natCast_one, Int.natCast_zero, Int.natCast_add, reduceCtorEq, t3, t4, t6, t8, t9, t33, t34, t35, eq_false e1, eq_false e2, eq_true e3, show IntKind.i64.wrap 1 = 1 by decide, show IntKind.i64.wrap 2 = 2 by decide]
            refine ⟨k - 1, by omega, 1, [], c.sym, a.minus, [], by omega, .inr (.inl ⟨rfl, hcc.symm, rfl⟩), ?_⟩
            (repeat' (first | exact rfl | apply And.intro))
          · have hcc : cancel a.sym a.minus c.minus = (a.sym, a.minus, c.minus) := by rw [cancel, if_neg e1, if_neg e2, if_neg e3]
            simp only [go_sem, ↓reduceIte, Nat.reduceEqDiff, Nat.reduceAdd, Nat.reduceMul, Nat.reduceLT, Nat.reduceLeDiff, Int.reduceLT, Int.reduceLE, Int.reduceNeg, Int.reduceAdd, Int.reduceSub, Int.reduceMul, Int.reduceToNat, Int.reduceEq, Int.reduceNe, Int.cast_ofNat_Int, Int.natCast_one, Int.natCast_zero, Int.natCast_add, reduceCtorEq, t3, t4, t6, t8, t9, t33, t34, t35, eq_false e1, eq_false e2, eq_false e3, show IntKind.i64.wrap 1 = 1 by decide, show IntKind.i64.wrap 2 = 2 by decide]
            refine ⟨k - 1, by omega, 1, a.sym, c.sym, a.minus, c.minus, by omega, .inr (.inl ⟨rfl, hcc.symm, rfl⟩), ?_⟩
            (repeat' (first | exact rfl | apply And.intro))
    · simp only [go_sem, ↓reduceIte, Nat.reduceEqDiff, Nat.reduceAdd, Nat.reduceMul, Nat.reduceLT, Nat.reduceLeDiff, Int.reduceLT, Int.reduceLE, Int.reduceNeg, Int.reduceAdd, Int.reduceSub, Int.reduceMul, Int.reduceToNat, Int.reduceEq, Int.reduceNe, Int.cast_ofNat_Int, Int.natCast_one, Int.natCast_zero, Int.natCast_add, reduceCtorEq, addHeap, t3, t4, t6, t8, t9, t33, t34, t35]
      refine (f102_ok X [m0, m1] c.sym _ 0 2 true 1 _ (by rw [look_app_add]; rfl) (by simp)).mono ?_
      rintro _ _ ⟨rfl, rfl⟩
      rw [idx_two]
      by_cases e1 : c.sym = []
      · have hcc : cancel c.sym m0 m1 = (c.sym, m0, m1) := by rw [cancel, if_pos e1]
        simp only [go_sem, ↓reduceIte, Nat.reduceEqDiff, Nat.reduceAdd, Nat.reduceMul, Nat.reduceLT, Nat.reduceLeDiff, Int.reduceLT, Int.reduceLE, Int.reduceNeg, Int.reduceAdd, Int.reduceSub, Int.reduceMul, Int.reduceToNat, Int.reduceEq, Int.reduceNe, Int.cast_ofNat_Int, Int.natCast_one, Int.natCast_zero, Int.natCast_add, reduceCtorEq, t3, t4, t6, t8, t9, t33, t34, t35, eq_true e1, show IntKind.i64.wrap 1 = 1 by decide, show IntKind.i64.wrap 2 = 2 by decide]
        refine ⟨k - 1, by omega, 2, p0, c.sym, m0, m1, by omega, .inr (.inr ⟨rfl, _, _, h1, hcc.symm⟩), ?_⟩
        (repeat' (first | exact rfl | apply And.intro))
      · by_cases e2 : m0 = c.sym
        · have hcc : cancel c.sym m0 m1 = ([], [], m1) := by rw [cancel, if_neg e1, if_pos e2]
          simp only [go_sem, ↓reduceIte, Nat.reduceEqDiff, Nat.reduceAdd, Nat.reduceMul, Nat.reduceLT, Nat.reduceLeDiff, Int.reduceLT, Int.reduceLE, Int.reduceNeg, Int.reduceAdd, Int.reduceSub, Int.reduceMul, Int.reduceToNat, Int.reduceEq, Int.reduceNe, Int.cast_ofNat_Int, Int.natCast_one, Int.natCast_zero, Int.natCast_add, reduceCtorEq, t3, t4, t6, t8, t9, t33, t34, t35, eq_false e1, eq_true e2, show IntKind.i64.wrap 1 = 1 by decide, show IntKind.i64.wrap 2 = 2 by decide]
          refine ⟨k - 1, by omega, 2, p0, [], [], m1, by omega, .inr (.inr ⟨rfl, _, _, h1, hcc.symm⟩), ?_⟩
          (repeat' (first | exact rfl | apply And.intro))
        · by_cases e3 : m1 = c.sym
          · have hcc : cancel c.sym m0 m1 = ([], m0, []) := by rw [cancel, if_neg e1, if_neg e2, if_pos e3]
            simp only [go_sem, ↓reduceIte, Nat.reduceEqDiff, Nat.reduceAdd, Nat.reduceMul, Nat.reduceLT, Nat.reduceLeDiff, Int.reduceLT, Int.reduceLE, Int.reduceNeg, Int.reduceAdd, Int.reduceSub, Int.reduceMul, Int.reduceToNat, Int.reduceEq, Int.reduceNe, Int.cast_ofNat_Int, Int.natCast_one, Int.natCast_zero, Int.natCast_add, reduceCtorEq, t3, t4, t6, t8, t9, t33, t34, t35, eq_false e1, eq_false e2, eq_true e3, show IntKind.i64.wrap 1 = 1 by decide, show IntKind.i64.wrap 2 = 2 by decide]
            refine ⟨k - 1, by omega, 2, p0, [], m0, [], by omega, .inr (.inr ⟨rfl, _, _, h1, hcc.symm⟩), ?_⟩
            (repeat' (first | exact rfl | apply And.intro))
          · have hcc : cancel c.sym m0 m1 = (c.sym, m0, m1) := by rw [cancel, if_neg e1, if_neg e2, if_neg e3]
            simp only [go_sem, ↓reduceIte, Nat.reduceEqDiff, Nat.reduceAdd, Nat.reduceMul, Nat.reduceLT, Nat.reduceLeDiff, Int.reduceLT, Int.reduceLE, Int.reduceNeg, Int.reduceAdd, Int.reduceSub, Int.reduceMul, Int.reduceToNat, Int.reduceEq, Int.reduceNe, Int.cast_ofNat_Int, Int.natCast_one, Int.natCast_zero, Int.natCast_add, reduceCtorEq, t3, t4, t6, t8, t9, t33, t34, t35, eq_false e1, eq_false e2, eq_false e3, show IntKind.i64.wrap 1 = 1 by decide, show IntKind.i64.wrap 2 = 2 by decide]
            refine ⟨k - 1, by omega, 2, p0, c.sym, m0, m1, by omega, .inr (.inr ⟨rfl, _, _, h1, hcc.symm⟩), ?_⟩
            (repeat' (first | exact rfl | apply And.intro))
    · have hsum : sumL a c = if (p0 ≠ [] ∧ p1 ≠ []) ∨ (m0 ≠ [] ∧ m1 ≠ []) then none else some ⟨p0 ++ p1, m0 ++ m1, a.num + c.num⟩ := by
        unfold sumL
        rw [← h1]
        simp only
        rw [← h2]
      rw [hsum]
      have hwn : IntKind.i64.wrap (a.num + c.num) = a.num + c.num := wrap64 (by omega)
      have hs1 := sadd (P := Tryd.prog) (t := 9) (show p0.length + p1.length ≤ 9223372036854775807 by omega)
      have hs2 := sadd (P := Tryd.prog) (t := 9) (show m0.length + m1.length ≤ 9223372036854775807 by omega)
      by_cases g1 : p0 = []
      · by_cases g3 : m0 = []
        · rw [if_neg (by simp [g1, g3])]
          simp only [go_sem, ↓reduceIte, Nat.reduceEqDiff, Nat.reduceAdd, Nat.reduceMul, Nat.reduceLT, Nat.reduceLeDiff, Int.reduceLT, Int.reduceLE, Int.reduceNeg, Int.reduceAdd, Int.reduceSub, Int.reduceMul, Int.reduceToNat, Int.reduceEq, Int.reduceNe, Int.cast_ofNat_Int, Int.natCast_one, Int.natCast_zero, Int.natCast_add, reduceCtorEq, addHeap, t3, t4, t6, t8, t9, t33, t34, t35, eq_true g1, eq_true g3, Lin.cells, Lin.zero, hs1, hs2, hwn]
          (repeat (refine And.intro ?_ ?_; focus (first | (refine quiet_pre ?_; simp [List.cons_prefix_cons]; done) | (refine quiet_look ?_; kernel_rfl))))
          exact ⟨rfl, List.prefix_append _ _⟩
        · by_cases g4 : m1 = []
          · rw [if_neg (by simp [g1, g4])]
            simp only [go_sem, ↓reduceIte, Nat.reduceEqDiff, Nat.reduceAdd, Nat.reduceMul, Nat.reduceLT, Nat.reduceLeDiff, Int.reduceLT, Int.reduceLE, Int.reduceNeg, Int.reduceAdd, Int.reduceSub, Int.reduceMul, Int.reduceToNat, Int.reduceEq, Int.reduceNe, Int.cast_ofNat_Int, Int.natCast_one, Int.natCast_zero, Int.natCast_add, reduceCtorEq, addHeap, t3, t4, t6, t8, t9, t33, t34, t35, eq_true g1, eq_false g3, eq_true g4, Lin.cells, Lin.zero, hs1, hs2, hwn]
            (repeat (refine And.intro ?_ ?_; focus (first | (refine quiet_pre ?_; simp [List.cons_prefix_cons]; done) | (refine quiet_look ?_; kernel_rfl))))
            exact ⟨rfl, List.prefix_append _ _⟩
          · rw [if_pos (.inr ⟨g3, g4⟩)]
            simp only [go_sem, ↓reduceIte, Nat.reduceEqDiff, Nat.reduceAdd, Nat.reduceMul, Nat.reduceLT, Nat.reduceLeDiff, Int.reduceLT, Int.reduceLE, Int.reduceNeg, Int.reduceAdd, Int.reduceSub, Int.reduceMul, Int.reduceToNat, Int.reduceEq, Int.reduceNe, Int.cast_ofNat_Int, Int.natCast_one, Int.natCast_zero, Int.natCast_add, reduceCtorEq, addHeap, t3, t4, t6, t8, t9, t33, t34, t35, eq_true g1, eq_false g3, eq_false g4, Lin.cells, Lin.zero]
            (repeat (refine And.intro ?_ ?_; focus (first | (refine quiet_pre ?_; simp [List.cons_prefix_cons]; done) | (refine quiet_look ?_; kernel_rfl))))
            exact ⟨rfl, List.prefix_append _ _⟩
      · by_cases g2 : p1 = []
        · by_cases g3 : m0 = []
          · rw [if_neg (by simp [g2, g3])]
            simp only [go_sem, ↓reduceIte, Nat.reduceEqDiff, Nat.reduceAdd, Nat.reduceMul, Nat.reduceLT, Nat.reduceLeDiff, Int.reduceLT, Int.reduceLE, Int.reduceNeg, Int.reduceAdd, Int.reduceSub, Int.reduceMul, Int.reduceToNat, Int.reduceEq, Int.reduceNe, Int.cast_ofNat_Int, Int.natCast_one, Int.natCast_zero, Int.natCast_add, reduceCtorEq, addHeap, t3, t4, t6, t8, t9, t33, t34, t35, eq_false g1, eq_true g2, eq_true g3, Lin.cells, Lin.zero, hs1, hs2, hwn]
            (repeat (refine And.intro ?_ ?_; focus (first | (refine quiet_pre ?_; simp [List.cons_prefix_cons]; done) | (refine quiet_look ?_; kernel_rfl))))
            exact ⟨rfl, List.prefix_append _ _⟩
          · by_cases g4 : m1 = []
            · rw [if_neg (by simp [g2, g4])]
              simp only [go_sem, ↓reduceIte, Nat.reduceEqDiff, Nat.reduceAdd, Nat.reduceMul, Nat.reduceLT, Nat.reduceLeDiff, Int.reduceLT, Int.reduceLE, Int.reduceNeg, Int.reduceAdd, Int.reduceSub, Int.reduceMul, Int.reduceToNat, Int.reduceEq, Int.reduceNe, Int.cast_ofNat_Int, Int.natCast_one, Int.natCast_zero, Int.natCast_add, reduceCtorEq, addHeap, t3, t4, t6, t8, t9, t33, t34, t35, eq_false g1, eq_true g2, eq_false g3, eq_true g4, Lin.cells, Lin.zero, hs1, hs2, hwn]
              (repeat (refine And.intro ?_ ?_; focus (first | (refine quiet_pre ?_; simp [List.cons_prefix_cons]; done) | (refine quiet_look ?_; kernel_rfl))))
              exact ⟨rfl, List.prefix_append _ _⟩
            · rw [if_pos (.inr ⟨g3, g4⟩)]
              simp only [go_sem, ↓reduceIte, Nat.reduceEqDiff, Nat.reduceAdd, Nat.reduceMul, Nat.reduceLT, Nat.reduceLeDiff, Int.reduceLT, Int.reduceLE, Int.reduceNeg, Int.reduceAdd, Int.reduceSub, Int.reduceMul, Int.reduceToNat, Int.reduceEq, Int.reduceNe, Int.cast_ofNat_Int, Int.natCast_one, Int.natCast_zero, Int.natCast_add, reduceCtorEq, addHeap, t3, t4, t6, t8, t9, t33, t34, t35, eq_false g1, eq_true g2, eq_false g3, eq_false g4, Lin.cells, Lin.zero]
              (repeat (refine And.intro ?_ ?_; focus (first | (refine quiet_pre ?_; simp [List.cons_prefix_cons]; done) | (refine quiet_look ?_; kernel_rfl))))
              exact ⟨rfl, List.prefix_append _ _⟩
        · rw [if_pos (.inl ⟨g1, g2⟩)]
          simp only [go_sem, ↓reduceIte, Nat.reduceEqDiff, Nat.reduceAdd, Nat.reduceMul, Nat.reduceLT, Nat.reduceLeDiff, Int.reduceLT, Int.reduceLE, Int.reduceNeg, Int.reduceAdd, Int.reduceSub, Int.reduceMul, Int.reduceToNat, Int.reduceEq, Int.reduceNe, Int.cast_ofNat_Int, Int.natCast_one, Int.natCast_zero, Int.natCast_add, reduceCtorEq, addHeap, t3, t4, t6, t8, t9, t33, t34, t35, eq_false g1, eq_false g2, Lin.cells, Lin.zero]
          (repeat (refine And.intro ?_ ?_; focus (first | (refine quiet_pre ?_; simp [List.cons_prefix_cons]; done) | (refine quiet_look ?_; kernel_rfl))))
          exact ⟨rfl, List.prefix_append _ _⟩
  · obtain ⟨c, hc⟩ : ∃ c, turn b sign = c := ⟨_, rfl⟩
    have hc1 : c = b := by rw [← hc, turn, if_neg hs]
    have hcl : c.sym.length ≤ 1000 ∧ c.minus.length ≤ 1000 := by rw [hc1]; exact ⟨b1, b2⟩
    have hcn : -1099511627776 ≤ c.num ∧ c.num ≤ 1099511627776 := by rw [hc1]; omega
    simp only [go_sem, ↓reduceIte, Nat.reduceEqDiff, Nat.reduceAdd, Nat.reduceMul, Nat.reduceLT, Nat.reduceLeDiff, Int.reduceLT, Int.reduceLE, Int.reduceNeg, Int.reduceAdd, Int.reduceSub, Int.reduceMul, Int.reduceToNat, Int.reduceEq, Int.reduceNe, Int.cast_ofNat_Int, Int.natCast_one, Int.natCast_zero, Int.natCast_add, reduceCtorEq, Lin.cells, hs]
    have hadd : addL a b sign = sumL a c := by rw [addL, hc]
    rw [hadd]
    clear hadd
    refine LW_run (fun k T ρ => ∃ (i : Nat) (p0 p1 m0 m1 : List UInt8), i + k = 2 ∧ stage a c i p0 p1 m0 m1 ∧ ρ = addHeap σ (some ⟨a.cells, true, 0⟩) (some ⟨c.cells, true, 0⟩) (some ⟨Lin.zero.cells, true, 0⟩) p0 p1 m0 m1
      ∧ T 3 = .pointer (some ⟨σ.length, 0, none⟩) ∧ T 4 = .pointer (some ⟨σ.length + 1, 0, none⟩) ∧ T 6 = .pointer (some ⟨σ.length + 2, 0, none⟩) ∧ T 8 = .slice (some ⟨σ.length + 3, 0, none⟩) 2 2 ∧ T 9 = .slice (some ⟨σ.length + 4, 0, none⟩) 2 2 ∧ T 33 = .slice (some ⟨σ.length + 3, 0, none⟩) 2 2 ∧ T 34 = .int .i64 2 ∧ T 35 = .int .i64 i) 2
      ⟨0, a.sym, c.sym, a.minus, c.minus, rfl, .inl ⟨rfl, rfl, rfl, rfl, rfl⟩, by rw [hc1]; rfl, rfl, rfl, rfl, rfl, rfl, rfl, rfl, rfl⟩ ?_
    rintro k T ρ ⟨i, p0, p1, m0, m1, hk, hst, rfl, t3, t4, t6, t8, t9, t33, t34, t35⟩
    have hlen := stage_len hst ⟨a1, a2⟩ hcl
    rcases hst with ⟨rfl, rfl, rfl, rfl, rfl⟩ | ⟨rfl, h1, rfl⟩ | ⟨rfl, n0, n1, h1, h2⟩
    · simp only [go_sem, ↓reduceIte, Nat.reduceEqDiff, Nat.reduceAdd, Nat.reduceMul, Nat.reduceLT, Nat.reduceLeDiff, Int.reduceLT, Int.reduceLE, Int.reduceNeg, Int.reduceAdd, Int.reduceSub, Int.reduceMul, Int.reduceToNat, Int.reduceEq, Int.reduceNe, Int.cast_ofNat_Int, Int.natCast_one, Int.natCast_zero, Int.natCast_add, reduceCtorEq, addHeap, t3, t4, t6, t8, t9, t33, t34, t35]
      refine (f102_ok X [a.minus, c.minus] a.sym _ 0 2 true 1 _ (by rw [look_app_add]; rfl) (by simp)).mono ?_
      rintro _ _ ⟨rfl, rfl⟩
      rw [idx_two]
      by_cases e1 : a.sym = []
      · have hcc : cancel a.sym a.minus c.minus = (a.sym, a.minus, c.minus) := by rw [cancel, if_pos e1]
        simp only [go_sem, ↓reduceIte, Nat.reduceEqDiff, Nat.reduceAdd, Nat.reduceMul, Nat.reduceLT, Nat.reduceLeDiff, Int.reduceLT, Int.reduceLE, Int.reduceNeg, Int.reduceAdd, Int.reduceSub, Int.reduceMul, Int.reduceToNat, Int.reduceEq, Int.reduceNe, Int.cast_ofNat_Int, Int.natCast_one, Int.natCast_zero, Int.natCast_add, reduceCtorEq, t3, t4, t6, t8, t9, t33, t34, t35, eq_true e1, show IntKind.i64.wrap 1 = 1 by decide, show IntKind.i64.wrap 2 = 2 by decide]
        refine ⟨k - 1, by omega, 1, a.sym, c.sym, a.minus, c.minus, by omega, .inr (.inl ⟨rfl, hcc.symm, rfl⟩), ?_⟩
        (repeat' (first | exact rfl | apply And.intro))
      · by_cases e2 : a.minus = a.sym
        · have hcc : cancel a.sym a.minus c.minus = ([], [], c.minus) := by rw [cancel, if_neg e1, if_pos e2]
          simp only [go_sem, ↓reduceIte, Nat.reduceEqDiff, Nat.reduceAdd, Nat.reduceMul, Nat.reduceLT, Nat.reduceLeDiff, Int.reduceLT, Int.reduceLE, Int.reduceNeg, Int.reduceAdd, Int.reduceSub, Int.reduceMul, Int.reduceToNat, Int.reduceEq, Int.reduceNe, Int.cast_ofNat_Int, Int.natCast_one, Int.natCast_zero, Int.natCast_add, reduceCtorEq, t3, t4, t6, t8, t9, t33, t34, t35, eq_false e1, eq_true e2, show IntKind.i64.wrap 1 = 1 by decide, show IntKind.i64.wrap 2 = 2 by decide]
          refine ⟨k - 1, by omega, 1, [], c.sym, [], c.minus, by omega, .inr (.inl ⟨rfl, hcc.symm, rfl⟩), ?_⟩
          (repeat' (first | exact rfl | apply And.intro))
        · by_cases e3 : c.minus = a.sym
          · have hcc : cancel a.sym a.minus c.minus = ([], a.minus, []) := by rw [cancel, if_neg e1, if_neg e2, if_pos e3]
            simp only [go_sem, ↓reduceIte, Nat.reduceEqDiff, Nat.reduceAdd, Nat.reduceMul, Nat.reduceLT, Nat.reduceLeDiff, Int.reduceLT, Int.reduceLE, Int.reduceNeg, Int.reduceAdd, Int.reduceSub, Int.reduceMul, Int.reduceToNat, Int.reduceEq, Int.reduceNe, Int.cast_ofNat_Int, Int.natCast_one, Int.natCast_zero, Int.natCast_add, reduceCtorEq, t3, t4, t6, t8, t9, t33, t34, t35, eq_false e1, eq_false e2, eq_true e3, show IntKind.i64.wrap 1 = 1 by decide, show IntKind.i64.wrap 2 = 2 by decide]
            refine ⟨k - 1, by omega, 1, [], c.sym, a.minus, [], by omega, .inr (.inl ⟨rfl, hcc.symm, rfl⟩), ?_⟩
            (repeat' (first | exact rfl | apply And.intro))
          · have hcc : cancel a.sym a.minus c.minus = (a.sym, a.minus, c.minus) := by rw [cancel, if_neg e1, if_neg e2, if_neg e3]
            simp only [go_sem, ↓reduceIte, Nat.reduceEqDiff, Nat.reduceAdd, Nat.reduceMul, Nat.reduceLT, Nat.reduceLeDiff, Int.reduceLT, Int.reduceLE, Int.reduceNeg, Int.reduceAdd, Int.reduceSub, Int.reduceMul, Int.reduceToNat, Int.reduceEq, Int.reduceNe, Int.cast_ofNat_Int, Int.natCast_one, Int.natCast_zero, Int.natCast_add, reduceCtorEq, t3, t4, t6, t8, t9, t33, t34, t35, eq_false e1, eq_false e2, eq_false e3, show IntKind.i64.wrap 1 = 1 by decide, show IntKind.i64.wrap 2 = 2 by decide]
            refine ⟨k - 1, by omega, 1, a.sym, c.sym, a.minus, c.minus, by omega, .inr (.inl ⟨rfl, hcc.symm, rfl⟩), ?_⟩
            (repeat' (first | exact rfl | apply And.intro))
    · simp only [go_sem, ↓reduceIte, Nat.reduceEqDiff, Nat.reduceAdd, Nat.reduceMul, Nat.reduceLT, Nat.reduceLeDiff, Int.reduceLT, Int.reduceLE, Int.reduceNeg, Int.reduceAdd, Int.reduceSub, Int.reduceMul, Int.reduceToNat, Int.reduceEq, Int.reduceNe, Int.cast_ofNat_Int, Int.natCast_one, Int.natCast_zero, Int.natCast_add, reduceCtorEq, addHeap, t3, t4, t6, t8, t9, t33, t34, t35]
      refine (f102_ok X [m0, m1] c.sym _ 0 2 true 1 _ (by rw [look_app_add]; rfl) (by simp)).mono ?_
      rintro _ _ ⟨rfl, rfl⟩
      rw [idx_two]
      by_cases e1 : c.sym = []
      · have hcc : cancel c.sym m0 m1 = (c.sym, m0, m1) := by rw [cancel, if_pos e1]
        simp only [go_sem, ↓reduceIte, Nat.reduceEqDiff, Nat.reduceAdd, Nat.reduceMul, Nat.reduceLT, Nat.reduceLeDiff, Int.reduceLT, Int.reduceLE, Int.reduceNeg, Int.reduceAdd, Int.reduceSub, Int.reduceMul, Int.reduceToNat, Int.reduceEq, Int.reduceNe, Int.cast_ofNat_Int, Int.natCast_one, Int.natCast_zero, Int.natCast_add, reduceCtorEq, t3, t4, t6, t8, t9, t33, t34, t35, eq_true e1, show IntKind.i64.wrap 1 = 1 by decide, show IntKind.i64.wrap 2 = 2 by decide]
        refine ⟨k - 1, by omega, 2, p0, c.sym, m0, m1, by omega, .inr (.inr ⟨rfl, _, _, h1, hcc.symm⟩), ?_⟩
        (repeat' (first | exact rfl | apply And.intro))
      · by_cases e2 : m0 = c.sym
        · have hcc : cancel c.sym m0 m1 = ([], [], m1) := by rw [cancel, if_neg e1, if_pos e2]
          simp only [go_sem, ↓reduceIte, Nat.reduceEqDiff, Nat.reduceAdd, Nat.reduceMul, Nat.reduceLT, Nat.reduceLeDiff, Int.reduceLT, Int.reduceLE, Int.reduceNeg, Int.reduceAdd, Int.reduceSub, Int.reduceMul, Int.reduceToNat, Int.reduceEq, Int.reduceNe, Int.cast_ofNat_Int, Int.natCast_one, Int.natCast_zero, Int.natCast_add, reduceCtorEq, t3, t4, t6, t8, t9, t33, t34, t35, eq_false e1, eq_true e2, show IntKind.i64.wrap 1 = 1 by decide, show IntKind.i64.wrap 2 = 2 by decide]
          refine ⟨k - 1, by omega, 2, p0, [], [], m1, by omega, .inr (.inr ⟨rfl, _, _, h1, hcc.symm⟩), ?_⟩
          (repeat' (first | exact rfl | apply And.intro))
        · by_cases e3 : m1 = c.sym
          · have hcc : cancel c.sym m0 m1 = ([], m0, []) := by rw [cancel, if_neg e1, if_neg e2, if_pos e3]
            simp only [go_sem, ↓reduceIte, Nat.reduceEqDiff, Nat.reduceAdd, Nat.reduceMul, Nat.reduceLT, Nat.reduceLeDiff, Int.reduceLT, Int.reduceLE, Int.reduceNeg, Int.reduceAdd, Int.reduceSub, Int.reduceMul, Int.reduceToNat, Int.reduceEq, Int.reduceNe, Int.cast_ofNat_Int, Int.natCast_one, Int.natCast_zero, Int.natCast_add, reduceCtorEq, t3, t4, t6, t8, t9, t33, t34, t35, eq_false e1, eq_false e2, eq_true e3, show IntKind.i64.wrap 1 = 1 by decide, show IntKind.i64.wrap 2 = 2 by decide]
            refine ⟨k - 1, by omega, 2, p0, [], m0, [], by omega, .inr (.inr ⟨rfl, _, _, h1, hcc.symm⟩), ?_⟩
            (repeat' (first | exact rfl | apply And.intro))
          · have hcc : cancel c.sym m0 m1 = (c.sym, m0, m1) := by rw [cancel, if_neg e1, if_neg e2, if_neg e3]
            simp only [go_sem, ↓reduceIte, Nat.reduceEqDiff, Nat.reduceAdd, Nat.reduceMul, Nat.reduceLT, Nat.reduceLeDiff, Int.reduceLT, Int.reduceLE, Int.reduceNeg, Int.reduceAdd, Int.reduceSub, Int.reduceMul, Int.reduceToNat, Int.reduceEq, Int.reduceNe, Int.cast_ofNat_Int, Int.natCast_one, Int.natCast_zero, Int.natCast_add, reduceCtorEq, t3, t4, t6, t8, t9, t33, t34, t35, eq_false e1, eq_false e2, eq_false e3, show IntKind.i64.wrap 1 = 1 by decide, show IntKind.i64.wrap 2 = 2 by decide]
            refine ⟨k - 1, by omega, 2, p0, c.sym, m0, m1, by omega, .inr (.inr ⟨rfl, _, _, h1, hcc.symm⟩), ?_⟩
            (repeat' (first | exact rfl | apply And.intro))
    · have hsum : sumL a c = if (p0 ≠ [] ∧ p1 ≠ []) ∨ (m0 ≠ [] ∧ m1 ≠ []) then none else some ⟨p0 ++ p1, m0 ++ m1, a.num + c.num⟩ := by
        unfold sumL
        rw [← h1]
        simp only
        rw [← h2]
      rw [hsum]
      have hwn : IntKind.i64.wrap (a.num + c.num) = a.num + c.num := wrap64 (by omega)
      have hs1 := sadd (P := Tryd.prog) (t := 9) (show p0.length + p1.length ≤ 9223372036854775807 by omega)
      have hs2 := sadd (P := Tryd.prog) (t := 9) (show m0.length + m1.length ≤ 9223372036854775807 by omega)
      by_cases g1 : p0 = []
      · by_cases g3 : m0 = []
        · rw [if_neg (by simp [g1, g3])]
          simp only [go_sem, ↓reduceIte, Nat.reduceEqDiff, Nat.reduceAdd, Nat.reduceMul, Nat.reduceLT, Nat.reduceLeDiff, Int.reduceLT, Int.reduceLE, Int.reduceNeg, Int.reduceAdd, Int.reduceSub, Int.reduceMul, Int.reduceToNat, Int.reduceEq, Int.reduceNe, Int.cast_ofNat_Int, Int.natCast_one, Int.natCast_zero, Int.natCast_add, reduceCtorEq, addHeap, t3, t4, t6, t8, t9, t33, t34, t35, eq_true g1, eq_true g3, Lin.cells, Lin.zero, hs1, hs2, hwn]
          (repeat (refine And.intro ?_ ?_; focus (first | (refine quiet_pre ?_; simp [List.cons_prefix_cons]; done) | (refine quiet_look ?_; kernel_rfl))))
          exact ⟨rfl, List.prefix_append _ _⟩
        · by_cases g4 : m1 = []
          · rw [if_neg (by simp [g1, g4])]
            simp only [go_sem, ↓reduceIte, Nat.reduceEqDiff, Nat.reduceAdd, Nat.reduceMul, Nat.reduceLT, Nat.reduceLeDiff, Int.reduceLT, Int.reduceLE, Int.reduceNeg, Int.reduceAdd, Int.reduceSub, Int.reduceMul, Int.reduceToNat, Int.reduceEq, Int.reduceNe, Int.cast_ofNat_Int, Int.natCast_one, Int.natCast_zero, Int.natCast_add, reduceCtorEq, addHeap, t3, t4, t6, t8, t9, t33, t34, t35, eq_true g1, eq_false g3, eq_true g4, Lin.cells, Lin.zero, hs1, hs2, hwn]
            (repeat (refine And.intro ?_ ?_; focus (first | (refine quiet_pre ?_; simp [List.cons_prefix_cons]; done) | (refine quiet_look ?_; kernel_rfl))))
            exact ⟨rfl, List.prefix_append _ _⟩
          · rw [if_pos (.inr ⟨g3, g4⟩)]
            simp only [go_sem, ↓reduceIte, Nat.reduceEqDiff, Nat.reduceAdd, Nat.reduceMul, Nat.reduceLT, Nat.reduceLeDiff, Int.reduceLT, Int.reduceLE, Int.reduceNeg, Int.reduceAdd, Int.reduceSub, Int.reduceMul, Int.reduceToNat, Int.reduceEq, Int.reduceNe, Int.cast_ofNat_Int, Int.natCast_one, Int.natCast_zero, Int.natCast_add, reduceCtorEq, addHeap, t3, t4, t6, t8, t9, t33, t34, t35, eq_true g1, eq_false g3, eq_false g4, Lin.cells, Lin.zero]
            (repeat (refine And.intro ?_ ?_; focus (first | (refine quiet_pre ?_; simp [List.cons_prefix_cons]; done) | (refine quiet_look ?_; kernel_rfl))))
            exact ⟨rfl, List.prefix_append _ _⟩
      · by_cases g2 : p1 = []
        · by_cases g3 : m0 = []
          · rw [if_neg (by simp [g2, g3])]
            simp only [go_sem, ↓reduceIte, Nat.reduceEqDiff, Nat.reduceAdd, Nat.reduceMul, Nat.reduceLT, Nat.reduceLeDiff, Int.reduceLT, Int.reduceLE, Int.reduceNeg, Int.reduceAdd, Int.reduceSub, Int.reduceMul, Int.reduceToNat, Int.reduceEq, Int.reduceNe, Int.cast_ofNat_Int, Int.natCast_one, Int.natCast_zero, Int.natCast_add, reduceCtorEq, addHeap, t3, t4, t6, t8, t9, t33, t34, t35, eq_false g1, eq_true g2, eq_true g3, Lin.cells, Lin.zero, hs1, hs2, hwn]
            (repeat (refine And.intro ?_ ?_; focus (first | (refine quiet_pre ?_; simp [List.cons_prefix_cons]; done) | (refine quiet_look ?_; kernel_rfl))))
            exact ⟨rfl, List.prefix_append _ _⟩
          · by_cases g4 : m1 = []
            · rw [if_neg (by simp [g2, g4])]
              simp only [go_sem, ↓reduceIte, Nat.reduceEqDiff, Nat.reduceAdd, Nat.reduceMul, Nat.reduceLT, Nat.reduceLeDiff, Int.reduceLT, Int.reduceLE, Int.reduceNeg, Int.reduceAdd, Int.reduceSub, Int.reduceMul, Int.reduceToNat, Int.reduceEq, Int.reduceNe, Int.cast_ofNat_Int, Int.natCast_one, Int.natCast_zero, Int.natCast_add, reduceCtorEq, addHeap, t3, t4, t6, t8, t9, t33, t34, t35, eq_false g1, eq_true g2, eq_false g3, eq_true g4, Lin.cells, Lin.zero, hs1, hs2, hwn]
              (repeat (refine And.intro ?_ ?_; focus (first | (refine quiet_pre ?_; simp [List.cons_prefix_cons]; done) | (refine quiet_look ?_; kernel_rfl))))
              exact ⟨rfl, List.prefix_append _ _⟩
            · rw [if_pos (.inr ⟨g3, g4⟩)]
              simp only [go_sem, ↓reduceIte, Nat.reduceEqDiff, Nat.reduceAdd, Nat.reduceMul, Nat.reduceLT, Nat.reduceLeDiff, Int.reduceLT, Int.reduceLE, Int.reduceNeg, Int.reduceAdd, Int.reduceSub, Int.reduceMul, Int.reduceToNat, Int.reduceEq, Int.reduceNe, Int.cast_ofNat_Int, Int.natCast_one, Int.natCast_zero, Int.natCast_add, reduceCtorEq, addHeap, t3, t4, t6, t8, t9, t33, t34, t35, eq_false g1, eq_true g2, eq_false g3, eq_false g4, Lin.cells, Lin.zero]
              (repeat (refine And.intro ?_ ?_; focus (first | (refine quiet_pre ?_; simp [List.cons_prefix_cons]; done) | (refine quiet_look ?_; kernel_rfl))))
              exact ⟨rfl, List.prefix_append _ _⟩
        · rw [if_pos (.inl ⟨g1, g2⟩)]
          simp only [go_sem, ↓reduceIte, Nat.reduceEqDiff, Nat.reduceAdd, Nat.reduceMul, Nat.reduceLT, Nat.reduceLeDiff, Int.reduceLT, Int.reduceLE, Int.reduceNeg, Int.reduceAdd, Int.reduceSub, Int.reduceMul, Int.reduceToNat, Int.reduceEq, Int.reduceNe, Int.cast_ofNat_Int, Int.natCast_one, Int.natCast_zero, Int.natCast_add, reduceCtorEq, addHeap, t3, t4, t6, t8, t9, t33, t34, t35, eq_false g1, eq_false g2, Lin.cells, Lin.zero]
          (repeat (refine And.intro ?_ ?_; focus (first | (refine quiet_pre ?_; simp [List.cons_prefix_cons]; done) | (refine quiet_look ?_; kernel_rfl))))
          exact ⟨rfl, List.prefix_append _ _⟩

/-! ### operations on numbers -/
def calcOf (kind a b : Int) : Int × Int :=
  if kind = 7 then (if a ≠ 0 ∧ IntKind.i64.wrap ((IntKind.i64.wrap (a * b)).tdiv a) ≠ b then (0, 10) else (IntKind.i64.wrap (a * b), 0))
  else if kind = 8 ∨ kind = 9 then (if b = 0 then (0, 3) else if kind = 8 then (IntKind.i64.wrap (a.tdiv b), 0) else (a.tmod b, 0))
  else if kind = 10 ∨ kind = 11 then (if b < 0 ∨ 40 < b then (0, 3) else if kind = 11 then (a.fdiv (2 ^ (min b.toNat 64)), 0)
    else if (1099511627776 : Int).fdiv (2 ^ (min b.toNat 64)) < a ∨ a < IntKind.i64.wrap (0 - (1099511627776 : Int).fdiv (2 ^ (min b.toNat 64))) then (0, 10) else (IntKind.i64.wrap (a * 2 ^ (min b.toNat 64)), 0))
  else if kind = 12 then (Go.bits .and .i64 a b, 0) else if kind = 13 then (Go.bits .xor .i64 a b, 0) else (Go.bits .or .i64 a b, 0)
set_option maxHeartbeats 2000000 in
theorem f83_ok (X : Ext) (kind a b : Int) (σ : Heap) : CW Tryd.prog X 83 [.int .i64 kind, .int .i64 a, .int .i64 b] σ fun v σ' => v = .tuple #[.int .i64 (calcOf kind a b).1, .int .i64 (calcOf kind a b).2] ∧ σ' = σ := by
  refine cw_in Tryd.func83 rfl Tryd.ntmps83 (rs := [.tmp 6, .tmp 7]) rfl (by kernel_rfl) (by exact Nat.le_of_ble_eq_true rfl) ?_
  by_cases k7 : kind = 7
  · have e : calcOf kind a b = if a ≠ 0 ∧ IntKind.i64.wrap ((IntKind.i64.wrap (a * b)).tdiv a) ≠ b then (0, 10) else (IntKind.i64.wrap (a * b), 0) := by rw [calcOf, if_pos k7]
    rw [e]
    by_cases a0 : a = 0
    · rw [if_neg (fun h => h.1 a0)]
      simp only [go_sem, ↓reduceIte, Nat.reduceEqDiff, Nat.reduceAdd, Nat.reduceMul, Nat.reduceLT, Nat.reduceLeDiff, Int.reduceLT, Int.reduceLE, Int.reduceNeg, Int.reduceAdd, Int.reduceSub, Int.reduceMul, Int.reduceToNat, Int.reduceEq, Int.reduceNe, Int.cast_ofNat_Int, Int.natCast_one, Int.natCast_zero, Int.natCast_add, reduceCtorEq, k7, eq_true a0]
    · by_cases hq : IntKind.i64.wrap ((IntKind.i64.wrap (a * b)).tdiv a) = b
      · rw [if_neg (fun h => h.2 hq)]
        simp only [go_sem, ↓reduceIte, Nat.reduceEqDiff, Nat.reduceAdd, Nat.reduceMul, Nat.reduceLT, Nat.reduceLeDiff, Int.reduceLT, Int.reduceLE, Int.reduceNeg, Int.reduceAdd, Int.reduceSub, Int.reduceMul, Int.reduceToNat, Int.reduceEq, Int.reduceNe, Int.cast_ofNat_Int, Int.natCast_one, Int.natCast_zero, Int.natCast_add, reduceCtorEq, k7, eq_false a0, i_quo a0, eq_true hq]
      · rw [if_pos ⟨a0, hq⟩]
        simp only [go_sem, ↓reduceIte, Nat.reduceEqDiff, Nat.reduceAdd, Nat.reduceMul, Nat.reduceLT, Nat.reduceLeDiff, Int.reduceLT, Int.reduceLE, Int.reduceNeg, Int.reduceAdd, Int.reduceSub, Int.reduceMul, Int.reduceToNat, Int.reduceEq, Int.reduceNe, Int.cast_ofNat_Int, Int.natCast_one, Int.natCast_zero, Int.natCast_add, reduceCtorEq, k7, eq_false a0, i_quo a0, eq_false hq]
  by_cases k8 : kind = 8 ∨ kind = 9
  · have e : calcOf kind a b = if b = 0 then (0, 3) else if kind = 8 then (IntKind.i64.wrap (a.tdiv b), 0) else (a.tmod b, 0) := by rw [calcOf, if_neg k7, if_pos k8]
    rw [e]
    by_cases k81 : kind = 8
    · by_cases b0 : b = 0
      · simp only [go_sem, ↓reduceIte, Nat.reduceEqDiff, Nat.reduceAdd, Nat.reduceMul, Nat.reduceLT, Nat.reduceLeDiff, Int.reduceLT, Int.reduceLE, Int.reduceNeg, Int.reduceAdd, Int.reduceSub, Int.reduceMul, Int.reduceToNat, Int.reduceEq, Int.reduceNe, Int.cast_ofNat_Int, Int.natCast_one, Int.natCast_zero, Int.natCast_add, reduceCtorEq, k81, b0]
      · simp only [go_sem, ↓reduceIte, Nat.reduceEqDiff, Nat.reduceAdd, Nat.reduceMul, Nat.reduceLT, Nat.reduceLeDiff, Int.reduceLT, Int.reduceLE, Int.reduceNeg, Int.reduceAdd, Int.reduceSub, Int.reduceMul, Int.reduceToNat, Int.reduceEq, Int.reduceNe, Int.cast_ofNat_Int, Int.natCast_one, Int.natCast_zero, Int.natCast_add, reduceCtorEq, k81, eq_false b0, i_quo b0]
    · have k9 : kind = 9 := by omega
      by_cases b0 : b = 0
      · simp only [go_sem, ↓reduceIte, Nat.reduceEqDiff, Nat.reduceAdd, Nat.reduceMul, Nat.reduceLT, Nat.reduceLeDiff, Int.reduceLT, Int.reduceLE, Int.reduceNeg, Int.reduceAdd, Int.reduceSub, Int.reduceMul, Int.reduceToNat, Int.reduceEq, Int.reduceNe, Int.cast_ofNat_Int, Int.natCast_one, Int.natCast_zero, Int.natCast_add, reduceCtorEq, k9, b0]
      · simp only [go_sem, ↓reduceIte, Nat.reduceEqDiff, Nat.reduceAdd, Nat.reduceMul, Nat.reduceLT, Nat.reduceLeDiff, Int.reduceLT, Int.reduceLE, Int.reduceNeg, Int.reduceAdd, Int.reduceSub, Int.reduceMul, Int.reduceToNat, Int.reduceEq, Int.reduceNe, Int.cast_ofNat_Int, Int.natCast_one, Int.natCast_zero, Int.natCast_add, reduceCtorEq, k9, eq_false b0, i_rem b0]
  have k8a : ¬ kind = 8 := fun h => k8 (.inl h)
  have k9a : ¬ kind = 9 := fun h => k8 (.inr h)
  by_cases k10 : kind = 10 ∨ kind = 11
  · have e : calcOf kind a b = if b < 0 ∨ 40 < b then (0, 3) else if kind = 11 then (a.fdiv (2 ^ (min b.toNat 64)), 0)
      else if (1099511627776 : Int).fdiv (2 ^ (min b.toNat 64)) < a ∨ a < IntKind.i64.wrap (0 - (1099511627776 : Int).fdiv (2 ^ (min b.toNat 64))) then (0, 10) else (IntKind.i64.wrap (a * 2 ^ (min b.toNat 64)), 0) := by
      rw [calcOf, if_neg k7, if_neg k8, if_pos k10]
    rw [e]
    have core : (kind = 10 ∨ kind = 11) := k10
    by_cases k11 : kind = 11
    · subst k11
      by_cases b0 : b < 0
      · simp only [go_sem, ↓reduceIte, Nat.reduceEqDiff, Nat.reduceAdd, Nat.reduceMul, Nat.reduceLT, Nat.reduceLeDiff, Int.reduceLT, Int.reduceLE, Int.reduceNeg, Int.reduceAdd, Int.reduceSub, Int.reduceMul, Int.reduceToNat, Int.reduceEq, Int.reduceNe, Int.cast_ofNat_Int, Int.natCast_one, Int.natCast_zero, Int.natCast_add, reduceCtorEq, b0, true_or]
      · by_cases b40 : 40 < b
        · simp only [go_sem, ↓reduceIte, Nat.reduceEqDiff, Nat.reduceAdd, Nat.reduceMul, Nat.reduceLT, Nat.reduceLeDiff, Int.reduceLT, Int.reduceLE, Int.reduceNeg, Int.reduceAdd, Int.reduceSub, Int.reduceMul, Int.reduceToNat, Int.reduceEq, Int.reduceNe, Int.cast_ofNat_Int, Int.natCast_one, Int.natCast_zero, Int.natCast_add, reduceCtorEq, b0, b40, or_true]
        · simp only [go_sem, ↓reduceIte, Nat.reduceEqDiff, Nat.reduceAdd, Nat.reduceMul, Nat.reduceLT, Nat.reduceLeDiff, Int.reduceLT, Int.reduceLE, Int.reduceNeg, Int.reduceAdd, Int.reduceSub, Int.reduceMul, Int.reduceToNat, Int.reduceEq, Int.reduceNe, Int.cast_ofNat_Int, Int.natCast_one, Int.natCast_zero, Int.natCast_add, reduceCtorEq, b0, b40, or_self, i_shr (show 0 ≤ b by omega)]
    · have k10a : kind = 10 := by omega
      subst k10a
      by_cases b0 : b < 0
      · simp only [go_sem, ↓reduceIte, Nat.reduceEqDiff, Nat.reduceAdd, Nat.reduceMul, Nat.reduceLT, Nat.reduceLeDiff, Int.reduceLT, Int.reduceLE, Int.reduceNeg, Int.reduceAdd, Int.reduceSub, Int.reduceMul, Int.reduceToNat, Int.reduceEq, Int.reduceNe, Int.cast_ofNat_Int, Int.natCast_one, Int.natCast_zero, Int.natCast_add, reduceCtorEq, b0, true_or]
      · by_cases b40 : 40 < b
        · simp only [go_sem, ↓reduceIte, Nat.reduceEqDiff, Nat.reduceAdd, Nat.reduceMul, Nat.reduceLT, Nat.reduceLeDiff, Int.reduceLT, Int.reduceLE, Int.reduceNeg, Int.reduceAdd, Int.reduceSub, Int.reduceMul, Int.reduceToNat, Int.reduceEq, Int.reduceNe, Int.cast_ofNat_Int, Int.natCast_one, Int.natCast_zero, Int.natCast_add, reduceCtorEq, b0, b40, or_true]
        · rw [if_neg (by omega), if_neg (by omega)]
          generalize hm : (1099511627776 : Int).fdiv (2 ^ (min b.toNat 64)) = m
          by_cases c1 : m < a
          · rw [if_pos (.inl c1)]
            simp only [go_sem, ↓reduceIte, Nat.reduceEqDiff, Nat.reduceAdd, Nat.reduceMul, Nat.reduceLT, Nat.reduceLeDiff, Int.reduceLT, Int.reduceLE, Int.reduceNeg, Int.reduceAdd, Int.reduceSub, Int.reduceMul, Int.reduceToNat, Int.reduceEq, Int.reduceNe, Int.cast_ofNat_Int, Int.natCast_one, Int.natCast_zero, Int.natCast_add, reduceCtorEq, b0, b40, i_shr (show 0 ≤ b by omega), hm, eq_true c1]
          · by_cases c2 : a < IntKind.i64.wrap (0 - m)
            · rw [if_pos (.inr c2)]
              simp only [go_sem, ↓reduceIte, Nat.reduceEqDiff, Nat.reduceAdd, Nat.reduceMul, Nat.reduceLT, Nat.reduceLeDiff, Int.reduceLT, Int.reduceLE, Int.reduceNeg, Int.reduceAdd, Int.reduceSub, Int.reduceMul, Int.reduceToNat, Int.reduceEq, Int.reduceNe, Int.cast_ofNat_Int, Int.natCast_one, Int.natCast_zero, Int.natCast_add, reduceCtorEq, b0, b40, i_shr (show 0 ≤ b by omega), hm, eq_false c1, eq_true c2]
            · rw [if_neg (fun h => h.elim c1 c2)]
              simp only [go_sem, ↓reduceIte, Nat.reduceEqDiff, Nat.reduceAdd, Nat.reduceMul, Nat.reduceLT, Nat.reduceLeDiff, Int.reduceLT, Int.reduceLE, Int.reduceNeg, Int.reduceAdd, Int.reduceSub, Int.reduceMul, Int.reduceToNat, Int.reduceEq, Int.reduceNe, Int.cast_ofNat_Int, Int.natCast_one, Int.natCast_zero, Int.natCast_add, reduceCtorEq, b0, b40, i_shr (show 0 ≤ b by omega), i_shl (show 0 ≤ b by omega), hm, eq_false c1, eq_false c2]
  have k10a : ¬ kind = 10 := fun h => k10 (.inl h)
  have k11a : ¬ kind = 11 := fun h => k10 (.inr h)
  have e : calcOf kind a b = if kind = 12 then (Go.bits .and .i64 a b, 0) else if kind = 13 then (Go.bits .xor .i64 a b, 0) else (Go.bits .or .i64 a b, 0) := by
    rw [calcOf, if_neg k7, if_neg k8, if_neg k10]
  rw [e]
  by_cases k12 : kind = 12
  · simp only [go_sem, ↓reduceIte, Nat.reduceEqDiff, Nat.reduceAdd, Nat.reduceMul, Nat.reduceLT, Nat.reduceLeDiff, Int.reduceLT, Int.reduceLE, Int.reduceNeg, Int.reduceAdd, Int.reduceSub, Int.reduceMul, Int.reduceToNat, Int.reduceEq, Int.reduceNe, Int.cast_ofNat_Int, Int.natCast_one, Int.natCast_zero, Int.natCast_add, reduceCtorEq, k12]
  · by_cases k13 : kind = 13
    · simp only [go_sem, ↓reduceIte, Nat.reduceEqDiff, Nat.reduceAdd, Nat.reduceMul, Nat.reduceLT, Nat.reduceLeDiff, Int.reduceLT, Int.reduceLE, Int.reduceNeg, Int.reduceAdd, Int.reduceSub, Int.reduceMul, Int.reduceToNat, Int.reduceEq, Int.reduceNe, Int.cast_ofNat_Int, Int.natCast_one, Int.natCast_zero, Int.natCast_add, reduceCtorEq, k13]
    · simp only [go_sem, ↓reduceIte, Nat.reduceEqDiff, Nat.reduceAdd, Nat.reduceMul, Nat.reduceLT, Nat.reduceLeDiff, Int.reduceLT, Int.reduceLE, Int.reduceNeg, Int.reduceAdd, Int.reduceSub, Int.reduceMul, Int.reduceToNat, Int.reduceEq, Int.reduceNe, Int.cast_ofNat_Int, Int.natCast_one, Int.natCast_zero, Int.natCast_add, reduceCtorEq, k7, k8a, k9a, k10a, k11a, k12, k13]
end Go.Proofs.YtkgdkommahgakaaDoor.Abs
