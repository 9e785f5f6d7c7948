import Derived.Test.YtcjhgnbkdiopkaaRoun
namespace Go.Proofs.Ytcjhgnbkdiopkaa.Abs
open Go Go.RowKit
set_option linter.unusedVariables false
set_option linter.unusedSimpArgs false
set_option maxRecDepth 100000

theorem eq27a (a b c d : Int) : abin Try.prog .eql 27 (.agg [.int .i64 a, .int .i64 b].toArray) (.agg [.int .i64 c, .int .i64 d].toArray) = (if decide (a = c) = true then (if decide (b = d) = true then some true else some false) else some false).map fun e => .bool e := by kernel_rfl
theorem eq27 {a b c d : Int} : abin Try.prog .eql 27 (.agg [.int .i64 a, .int .i64 b].toArray) (.agg [.int .i64 c, .int .i64 d].toArray) = some (.bool (decide (a = c ∧ b = d))) := by
  rw [eq27a]
  by_cases h : a = c <;> by_cases h2 : b = d <;> simp [h, h2]
theorem ge27 {x y : Operand} {a b : Array Value} : aguard Try.prog .eql 27 x y (.agg a) (.agg b) = true := by kernel_rfl
attribute [go_sem] eq27 ge27

set_option maxHeartbeats 1000000 in
theorem f5_ok (X : Ext) (L : List Frag) (n c : Nat) (ow : Bool) (sz : Nat) (σ : Heap) (hl : look σ n = some ⟨L.flatMap Frag.cells, ow, sz⟩) :
    CW Try.prog X 5 [.slice (some ⟨n, 0, none⟩) L.length c] σ fun v σ' => v = .bool true := by
  refine cw_in Try.func5 rfl Try.ntmps5 (rs := [.tmp 2]) rfl (by kernel_rfl) (by exact Nat.le_of_ble_eq_true rfl) ?_
  have hn : n < σ.length := look_lt hl
  simp only [go_sem, ↓reduceIte, Nat.reduceEqDiff, Nat.reduceAdd, Nat.reduceMul, Nat.reduceLT, Nat.reduceLeDiff, Int.reduceLT, Int.reduceLE, Int.reduceNeg, Int.reduceAdd, Int.reduceSub, Int.reduceMul, Int.reduceToNat, Int.reduceEq, Int.reduceNe, Int.cast_ofNat_Int, Int.natCast_one, Int.natCast_zero, Int.natCast_add, reduceCtorEq]
  refine (f10_ok X _).mono ?_
  rintro _ _ ⟨rfl, τ0, rfl⟩
  simp only [go_sem, ↓reduceIte, Nat.reduceEqDiff, Nat.reduceAdd, Nat.reduceMul, Nat.reduceLT, Nat.reduceLeDiff, Int.reduceLT, Int.reduceLE, Int.reduceNeg, Int.reduceAdd, Int.reduceSub, Int.reduceMul, Int.reduceToNat, Int.reduceEq, Int.reduceNe, Int.cast_ofNat_Int, Int.natCast_one, Int.natCast_zero, Int.natCast_add, reduceCtorEq]
  refine (f11_ok X L n c ow sz _ ((look_app_lt hn).trans hl)).mono ?_
  rintro v _ ⟨⟨τ1, rfl⟩, ⟨h, rfl⟩ | ⟨h0, p, c', q, d', m, rfl, hA, hO, hfix⟩⟩
  · simp only [go_sem, ↓reduceIte, Nat.reduceEqDiff, Nat.reduceAdd, Nat.reduceMul, Nat.reduceLT, Nat.reduceLeDiff, Int.reduceLT, Int.reduceLE, Int.reduceNeg, Int.reduceAdd, Int.reduceSub, Int.reduceMul, Int.reduceToNat, Int.reduceEq, Int.reduceNe, Int.cast_ofNat_Int, Int.natCast_one, Int.natCast_zero, Int.natCast_add, reduceCtorEq, faultV]
    refine (f12_ok X L n c ow sz _ ((look_app_lt hn).trans hl)).mono ?_
    rintro _ _ ⟨rfl, τ2, rfl⟩
    simp only [go_sem, ↓reduceIte, Nat.reduceEqDiff, Nat.reduceAdd, Nat.reduceMul, Nat.reduceLT, Nat.reduceLeDiff, Int.reduceLT, Int.reduceLE, Int.reduceNeg, Int.reduceAdd, Int.reduceSub, Int.reduceMul, Int.reduceToNat, Int.reduceEq, Int.reduceNe, Int.cast_ofNat_Int, Int.natCast_one, Int.natCast_zero, Int.natCast_add, reduceCtorEq, faultV, h]
  · obtain ⟨v1, v2, v3⟩ := validate_fine h0
    simp only [go_sem, ↓reduceIte, Nat.reduceEqDiff, Nat.reduceAdd, Nat.reduceMul, Nat.reduceLT, Nat.reduceLeDiff, Int.reduceLT, Int.reduceLE, Int.reduceNeg, Int.reduceAdd, Int.reduceSub, Int.reduceMul, Int.reduceToNat, Int.reduceEq, Int.reduceNe, Int.cast_ofNat_Int, Int.natCast_one, Int.natCast_zero, Int.natCast_add, reduceCtorEq, faultV]
    refine (f12_ok X L n c ow sz _ ((look_app_lt hn).trans hl)).mono ?_
    rintro _ _ ⟨rfl, τ2, rfl⟩
    simp only [go_sem, ↓reduceIte, Nat.reduceEqDiff, Nat.reduceAdd, Nat.reduceMul, Nat.reduceLT, Nat.reduceLeDiff, Int.reduceLT, Int.reduceLE, Int.reduceNeg, Int.reduceAdd, Int.reduceSub, Int.reduceMul, Int.reduceToNat, Int.reduceEq, Int.reduceNe, Int.cast_ofNat_Int, Int.natCast_one, Int.natCast_zero, Int.natCast_add, reduceCtorEq, faultV, v3]
    refine (f13_ok X L n c ow sz _ ((look_app_lt hn).trans hl) h0).mono ?_
    rintro _ _ ⟨p2, c2, m2, rfl, hp2, ⟨τ3, rfl⟩, hA2, hfix2⟩
    have hmm := iter_unique hfix hfix2
    rw [← hmm] at hA2
    have hlA := iter_len L m
    generalize iter L m = A at *
    simp only [List.append_assoc, List.cons_append, List.nil_append] at hA2
    simp only [go_sem, ↓reduceIte, Nat.reduceEqDiff, Nat.reduceAdd, Nat.reduceMul, Nat.reduceLT, Nat.reduceLeDiff, Int.reduceLT, Int.reduceLE, Int.reduceNeg, Int.reduceAdd, Int.reduceSub, Int.reduceMul, Int.reduceToNat, Int.reduceEq, Int.reduceNe, Int.cast_ofNat_Int, Int.natCast_one, Int.natCast_zero, Int.natCast_add, reduceCtorEq]
    refine (f14_ok X A A p c' p2 c2 _ _ true true 1 1 _ ?h1 hA2 hlA.symm hlA.symm (by omega)).mono ?_
    case h1 => exact look_prefix (by simp [List.cons_prefix_cons]) hA
    rintro _ _ ⟨rfl, rfl⟩
    simp only [go_sem, ↓reduceIte, Nat.reduceEqDiff, Nat.reduceAdd, Nat.reduceMul, Nat.reduceLT, Nat.reduceLeDiff, Int.reduceLT, Int.reduceLE, Int.reduceNeg, Int.reduceAdd, Int.reduceSub, Int.reduceMul, Int.reduceToNat, Int.reduceEq, Int.reduceNe, Int.cast_ofNat_Int, Int.natCast_one, Int.natCast_zero, Int.natCast_add, reduceCtorEq]
    refine (f16_ok X L A n c p2 c2 _ ow true sz 1 _ ((look_app_lt hn).trans hl) hA2 v2 v1 hlA.symm hlA).mono ?_
    rintro _ _ ⟨p3, c3, rfl, hp3, ⟨τ4, rfl⟩, hO3⟩
    simp only [List.append_assoc, List.cons_append, List.nil_append] at hO3
    simp only [go_sem, ↓reduceIte, Nat.reduceEqDiff, Nat.reduceAdd, Nat.reduceMul, Nat.reduceLT, Nat.reduceLeDiff, Int.reduceLT, Int.reduceLE, Int.reduceNeg, Int.reduceAdd, Int.reduceSub, Int.reduceMul, Int.reduceToNat, Int.reduceEq, Int.reduceNe, Int.cast_ofNat_Int, Int.natCast_one, Int.natCast_zero, Int.natCast_add, reduceCtorEq]
    refine (f15_ok X (offsTo L A L.length).1 (offsTo L A L.length).1 q d' p3 c3 _ _ true true 1 1 _ ?h2 hO3 (by rw [offsTo_len L A _ (Nat.le_refl _)]) (by rw [offsTo_len L A _ (Nat.le_refl _)]) (by rw [offsTo_len L A _ (Nat.le_refl _)]; omega)).mono ?_
    case h2 => exact look_prefix (by simp [List.cons_prefix_cons]) hO
    rintro _ _ ⟨rfl, rfl⟩
    simp only [go_sem, ↓reduceIte, Nat.reduceEqDiff, Nat.reduceAdd, Nat.reduceMul, Nat.reduceLT, Nat.reduceLeDiff, Int.reduceLT, Int.reduceLE, Int.reduceNeg, Int.reduceAdd, Int.reduceSub, Int.reduceMul, Int.reduceToNat, Int.reduceEq, Int.reduceNe, Int.cast_ofNat_Int, Int.natCast_one, Int.natCast_zero, Int.natCast_add, reduceCtorEq]
end Go.Proofs.Ytcjhgnbkdiopkaa.Abs
