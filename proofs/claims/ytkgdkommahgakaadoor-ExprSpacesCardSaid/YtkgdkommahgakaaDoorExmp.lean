import Derived.Test.YtkgdkommahgakaaDoorVal4
import Derived.Test.YtkgdkommahgakaaDoorNod2
namespace Go.Proofs.YtkgdkommahgakaaDoor.Abs
open Go Go.RowKit Gram
set_option linter.unusedVariables false
set_option linter.unusedSimpArgs false
set_option maxRecDepth 100000

def exT : List Tk := [⟨1, [97], 0, 0⟩, ⟨3, [43], 0, 0⟩, ⟨2, [], 1, 0⟩, ⟨3, [42], 0, 0⟩, ⟨2, [], 2, 0⟩]
def exN : List Nd := [⟨2, 0, [97], 0, 0⟩, ⟨1, 1, [], 0, 0⟩, ⟨1, 2, [], 0, 0⟩, ⟨7, 0, [], 1, 2⟩, ⟨5, 0, [], 0, 3⟩]
theorem exT_b : badTok exT = none := by decide +kernel
theorem exT_p : ∃ t, parseOf exT = some t ∧ t.size = 5 ∧ post t [] = exN := by
  have h : (parseOf exT).map (fun t => (t.size, post t [])) = some (5, exN) := by decide +kernel
  obtain ⟨t, h1, h2⟩ := Option.map_eq_some_iff.1 h
  simp only [Prod.mk.injEq] at h2
  exact ⟨t, h1, h2.1, h2.2⟩
theorem exN_v : valueOf exN [] = (⟨[97], [], 2⟩, (0, 0)) := by
  have h : (valueOf exN []).1.sym = [97] ∧ (valueOf exN []).1.minus = [] ∧ (valueOf exN []).1.num = 2 ∧ (valueOf exN []).2 = (0, 0) := by decide +kernel
  obtain ⟨h1, h2, h3, h4⟩ := h
  generalize valueOf exN [] = r at *
  obtain ⟨⟨a, b, c⟩, d⟩ := r
  simp only at h1 h2 h3 h4
  subst h1; subst h2; subst h3; subst h4
  rfl
theorem f45_ok (X : Ext) (σ : Heap) : CW Tryd.prog X 45 [] σ fun v σ' => v = .slice (some ⟨σ.length, 0, none⟩) 5 5 ∧ σ' = σ ++ [some ⟨exT.flatMap Tk.cells, true, 4⟩] := by
  refine cw_in Tryd.func45 rfl Tryd.ntmps45 (rs := [.tmp 0]) rfl (by kernel_rfl) (by exact Nat.le_of_ble_eq_true rfl) ?_
  simp only [go_sem, ↓reduceIte, Nat.reduceEqDiff, Nat.reduceAdd, Nat.reduceMul, Nat.reduceLT, Nat.reduceLeDiff, Int.reduceLT, Int.reduceLE, Int.reduceNeg, Int.reduceAdd, Int.reduceSub, Int.reduceMul, Int.reduceToNat, Int.reduceEq, Int.reduceNe, Int.cast_ofNat_Int, Int.natCast_one, Int.natCast_zero, Int.natCast_add, reduceCtorEq]
  rfl
set_option maxHeartbeats 1000000 in
theorem f17_ok (σ : Heap) (hG : GL σ) : CW Tryd.prog XL 17 [] σ fun v σ' => v = .bool true ∧ σ <+: σ' := by
  refine cw_in Tryd.func17 rfl Tryd.ntmps17 (rs := [.tmp 0]) rfl (by kernel_rfl) (by exact Nat.le_of_ble_eq_true rfl) ?_
  simp only [go_sem, ↓reduceIte, Nat.reduceEqDiff, Nat.reduceAdd, Nat.reduceMul, Nat.reduceLT, Nat.reduceLeDiff, Int.reduceLT, Int.reduceLE, Int.reduceNeg, Int.reduceAdd, Int.reduceSub, Int.reduceMul, Int.reduceToNat, Int.reduceEq, Int.reduceNe, Int.cast_ofNat_Int, Int.natCast_one, Int.natCast_zero, Int.natCast_add, reduceCtorEq]
  refine (f45_ok XL _).mono ?_
  rintro _ _ ⟨rfl, rfl⟩
  simp only [go_sem, ↓reduceIte, Nat.reduceEqDiff, Nat.reduceAdd, Nat.reduceMul, Nat.reduceLT, Nat.reduceLeDiff, Int.reduceLT, Int.reduceLE, Int.reduceNeg, Int.reduceAdd, Int.reduceSub, Int.reduceMul, Int.reduceToNat, Int.reduceEq, Int.reduceNe, Int.cast_ofNat_Int, Int.natCast_one, Int.natCast_zero, Int.natCast_add, reduceCtorEq]
  refine (f18_ok exT σ.length 5 true 4 _ (by rw [look_app_new, look_zero]) (hG.mono (List.prefix_append _ _)) (by decide) (by decide)).mono ?_
  rintro v ρ ⟨hv, hp⟩
  obtain ⟨t, h1, h2, h3⟩ := exT_p
  simp only [ParseV, exT_b, h1, h2, h3] at hv
  obtain ⟨q, c, rfl, hq1, hq2⟩ := hv
  have hp0 : σ <+: ρ := (List.prefix_append _ _).trans hp
  have hql := look_lt hq2
  simp only [go_sem, ↓reduceIte, Nat.reduceEqDiff, Nat.reduceAdd, Nat.reduceMul, Nat.reduceLT, Nat.reduceLeDiff, Int.reduceLT, Int.reduceLE, Int.reduceNeg, Int.reduceAdd, Int.reduceSub, Int.reduceMul, Int.reduceToNat, Int.reduceEq, Int.reduceNe, Int.cast_ofNat_Int, Int.natCast_one, Int.natCast_zero, Int.natCast_add, reduceCtorEq, faultV]
  refine (f24_ok XL exN [] q c (.slice none 0 0) true 5 _ ((look_app_lt hql).trans hq2) (.inl ⟨rfl, rfl⟩) (by decide) (by simp) (by decide) (by simp) 5 rfl).mono ?_
  rintro v ρ2 ⟨rfl, hp2⟩
  rw [exN_v]
  have hq3 : look ρ2 q = some ⟨exN.flatMap Nd.cells, true, 5⟩ := look_prefix hp2 ((look_app_lt hql).trans hq2)
  have hf : look ρ2 ρ.length = some ⟨[.int .i64 0, .int .i64 0], true, 0⟩ := look_prefix hp2 (by rw [look_app_new, look_zero])
  have hfl := look_lt hf
  have hql3 := look_lt hq3
  have hxc : exN.flatMap Nd.cells = [.int .i64 2, .int .i64 0, .string (str [97]), .int .i64 0, .int .i64 0, .int .i64 1, .int .i64 1, .string (str []), .int .i64 0, .int .i64 0, .int .i64 1, .int .i64 2, .string (str []), .int .i64 0, .int .i64 0, .int .i64 7, .int .i64 0, .string (str []), .int .i64 1, .int .i64 2, .int .i64 5, .int .i64 0, .string (str []), .int .i64 0, .int .i64 3] := rfl
  rw [hxc] at hq3
  simp only [go_sem, ↓reduceIte, Nat.reduceEqDiff, Nat.reduceAdd, Nat.reduceMul, Nat.reduceLT, Nat.reduceLeDiff, Int.reduceLT, Int.reduceLE, Int.reduceNeg, Int.reduceAdd, Int.reduceSub, Int.reduceMul, Int.reduceToNat, Int.reduceEq, Int.reduceNe, Int.cast_ofNat_Int, Int.natCast_one, Int.natCast_zero, Int.natCast_add, reduceCtorEq, faultV, Lin.cells, look_app_lt hfl, hf, look_app_lt hql3, hq3]
  exact hp0.trans (((List.prefix_append _ _).trans hp2).trans (List.prefix_append _ _))
end Go.Proofs.YtkgdkommahgakaaDoor.Abs
