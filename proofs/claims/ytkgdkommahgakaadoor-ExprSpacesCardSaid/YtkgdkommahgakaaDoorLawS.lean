/- The law function ExprSubstitutes (f5). -/
import Derived.Test.YtkgdkommahgakaaDoorSubs
import Derived.Test.YtkgdkommahgakaaDoorLawP
namespace Go.Proofs.YtkgdkommahgakaaDoor.Abs
open Go Go.RowKit Gram
set_option linter.unusedVariables false
set_option linter.unusedSimpArgs false
set_option maxRecDepth 100000

theorem lsn {σ l : Heap} {n : Nat} {b : Option Blk} : look (σ.set n b ++ l) σ.length = look l 0 := by
  have := look_app_new (σ := σ.set n b) (l := l)
  rwa [List.length_set] at this
theorem lsna {σ l : Heap} {n i : Nat} {b : Option Blk} : look (σ.set n b ++ l) (σ.length + i) = look l i := by
  have := look_app_add (σ := σ.set n b) (l := l) (i := i)
  rwa [List.length_set] at this
attribute [go_sem] lsn lsna List.set_set
theorem valueOf_bad {E : List Nd} {S : List Sy} (h : (valueOf E S).2.1 ≠ 0) : (valueOf E S).1 = Lin.zero := by
  unfold valueOf at h ⊢
  split
  · rfl
  · rename_i h1
    rw [if_neg h1] at h
    split
    · rfl
    · rename_i V hV
      rw [hV] at h
      exact absurd rfl h
set_option maxHeartbeats 2000000 in
theorem f5_ok (E : List Nd) (name : List UInt8) (m : Int) (n c sz : Nat) (σ : Heap) (hl : look σ n = some ⟨E.flatMap Nd.cells, false, sz⟩) (hG : GL σ) (ht : ∀ x ∈ E, x.name.length ≤ 140737488351232) (hz : E.length ≤ 140737488351232) (hn : name.length ≤ 140737488351232) :
    CW Tryd.prog XL 5 [.slice (some ⟨n, 0, none⟩) E.length c, .string (str name), .int .i64 m] σ fun v σ' => v = .bool true ∧ σ <+: σ' := by
  refine cw_in Tryd.func5 rfl Tryd.ntmps5 (rs := [.tmp 6]) rfl (by kernel_rfl) (by exact Nat.le_of_ble_eq_true rfl) ?_
  simp only [go_sem, ↓reduceIte, Nat.reduceEqDiff, Nat.reduceAdd, Nat.reduceMul, Nat.reduceLT, Nat.reduceLeDiff, Int.reduceLT, Int.reduceLE, Int.reduceNeg, Int.reduceAdd, Int.reduceSub, Int.reduceMul, Int.reduceToNat, Int.reduceEq, Int.reduceNe, Int.cast_ofNat_Int, Int.natCast_one, Int.natCast_zero, Int.natCast_add, reduceCtorEq]
  refine (f17_ok σ hG).mono ?_
  rintro _ ρ0 ⟨rfl, hp0⟩
  simp only [go_sem, ↓reduceIte, Nat.reduceEqDiff, Nat.reduceAdd, Nat.reduceMul, Nat.reduceLT, Nat.reduceLeDiff, Int.reduceLT, Int.reduceLE, Int.reduceNeg, Int.reduceAdd, Int.reduceSub, Int.reduceMul, Int.reduceToNat, Int.reduceEq, Int.reduceNe, Int.cast_ofNat_Int, Int.natCast_one, Int.natCast_zero, Int.natCast_add, reduceCtorEq]
  refine (f24_ok XL E [] n c (.slice none 0 0) false sz ρ0 (look_prefix hp0 hl) (.inl ⟨rfl, rfl⟩) ht (by simp) hz (by simp) E.length rfl).mono ?_
  rintro _ ρ1 ⟨rfl, hp1⟩
  simp only [go_sem, ↓reduceIte, Nat.reduceEqDiff, Nat.reduceAdd, Nat.reduceMul, Nat.reduceLT, Nat.reduceLeDiff, Int.reduceLT, Int.reduceLE, Int.reduceNeg, Int.reduceAdd, Int.reduceSub, Int.reduceMul, Int.reduceToNat, Int.reduceEq, Int.reduceNe, Int.cast_ofNat_Int, Int.natCast_one, Int.natCast_zero, Int.natCast_add, reduceCtorEq, faultV, Lin.cells]
  have hS : ∀ x ∈ [(⟨name, ⟨[], [], m⟩⟩ : Sy)], x.few := fun x hx => by
    rw [List.mem_singleton.1 hx]
    exact ⟨hn, by simp, by simp⟩
  refine (f24_ok XL E [⟨name, ⟨[], [], m⟩⟩] n c (.slice (some ⟨ρ1.length + 2, 0, none⟩) 1 1) false sz _ (look_prefix ((hp0.trans hp1).trans (List.prefix_append _ _)) hl) (.inr ⟨ρ1.length + 2, 1, true, 4, rfl, ?_⟩) ht hS hz (by simp) E.length rfl).mono ?_
  · rw [look_app_add]
    rfl
  rintro _ ρ2 ⟨rfl, hp2⟩
  have h7 := look_prefix hp2 (show look _ ρ1.length = some _ by rw [look_app_new, look_zero])
  have h8 := look_prefix hp2 (show look _ (ρ1.length + 1) = some _ by rw [look_app_add]; rfl)
  have law := @subs_law E name m
  have bad := @valueOf_bad E []
  have hpp : σ <+: ρ2 := ((hp0.trans hp1).trans (List.prefix_append _ _)).trans hp2
  have hq : σ.length ≤ ρ1.length := (hp0.trans hp1).length_le
  clear hp2 hp1 hp0
  generalize valueOf E [] = r1 at *
  generalize valueOf E [⟨name, ⟨[], [], m⟩⟩] = r2 at *
  obtain ⟨a, fa, fb⟩ := r1
  obtain ⟨w, ga, gb⟩ := r2
  simp only at law bad h7 h8
  generalize ρ1.length = p7 at *
  have l7 := look_lt h7
  have l8 := look_lt h8
  by_cases h1 : fa = 0
  case neg =>
    have hz := bad h1
    subst hz
    simp only [go_sem, ↓reduceIte, Nat.reduceEqDiff, Nat.reduceAdd, Nat.reduceMul, Nat.reduceLT, Nat.reduceLeDiff, Int.reduceLT, Int.reduceLE, Int.reduceNeg, Int.reduceAdd, Int.reduceSub, Int.reduceMul, Int.reduceToNat, Int.reduceEq, Int.reduceNe, Int.cast_ofNat_Int, Int.natCast_one, Int.natCast_zero, Int.natCast_add, reduceCtorEq, faultV, Lin.cells, Lin.zero, look_app_lt l7, look_app_lt l8, h7, h8, eq_false h1]
    exact hpp.trans (List.prefix_append _ _)
  by_cases h2 : ga = 0
  case neg =>
    simp only [go_sem, ↓reduceIte, Nat.reduceEqDiff, Nat.reduceAdd, Nat.reduceMul, Nat.reduceLT, Nat.reduceLeDiff, Int.reduceLT, Int.reduceLE, Int.reduceNeg, Int.reduceAdd, Int.reduceSub, Int.reduceMul, Int.reduceToNat, Int.reduceEq, Int.reduceNe, Int.cast_ofNat_Int, Int.natCast_one, Int.natCast_zero, Int.natCast_add, reduceCtorEq, faultV, Lin.cells, Lin.zero, look_app_lt l7, look_app_lt l8, h7, h8, eq_true h1, eq_false h2]
    exact hpp.trans (List.prefix_append _ _)
  obtain ⟨rfl, g1, g2, g3, g4⟩ := law h1 h2
  obtain ⟨_, _, b1, b2⟩ := g2
  have hw1 : IntKind.i64.wrap (a.num + m) = a.num + m := wrap64 (by omega)
  have hw2 : IntKind.i64.wrap (a.num - m) = a.num - m := wrap64 (by omega)
  have e1 : a.num + m * 1 = a.num + m := by omega
  have e2 : a.num + m * -1 = a.num - m := by omega
  have e3 : a.num + m * 0 = a.num := by omega
  by_cases k1 : a.sym = name
  · have k2 : ¬ a.minus = name := fun h => g3 (by rw [← k1]; exact g1 (by rw [k1, h]))
    simp only [go_sem, ↓reduceIte, Nat.reduceEqDiff, Nat.reduceAdd, Nat.reduceMul, Nat.reduceLT, Nat.reduceLeDiff, Int.reduceLT, Int.reduceLE, Int.reduceNeg, Int.reduceAdd, Int.reduceSub, Int.reduceMul, Int.reduceToNat, Int.reduceEq, Int.reduceNe, Int.cast_ofNat_Int, Int.natCast_one, Int.natCast_zero, Int.natCast_add, reduceCtorEq, faultV, Lin.cells, Lin.zero, look_app_lt l7, look_app_lt l8, set_app_lt l7, lsa l7 l7, h7, h8, eq_true h1, eq_true h2, eq_true k1, eq_false k2, putN, coef, one, hw1, hw2, look_set l7, ssa l7, List.set_set, e1, e2, e3]
    exact ((prefix_set hpp hq).trans (List.prefix_append _ _))
  · by_cases k2 : a.minus = name
    · simp only [go_sem, ↓reduceIte, Nat.reduceEqDiff, Nat.reduceAdd, Nat.reduceMul, Nat.reduceLT, Nat.reduceLeDiff, Int.reduceLT, Int.reduceLE, Int.reduceNeg, Int.reduceAdd, Int.reduceSub, Int.reduceMul, Int.reduceToNat, Int.reduceEq, Int.reduceNe, Int.cast_ofNat_Int, Int.natCast_one, Int.natCast_zero, Int.natCast_add, reduceCtorEq, faultV, Lin.cells, Lin.zero, look_app_lt l7, look_app_lt l8, set_app_lt l7, lsa l7 l7, h7, h8, eq_true h1, eq_true h2, eq_false k1, eq_true k2, putN, coef, one, hw1, hw2, look_set l7, ssa l7, List.set_set, e1, e2, e3]
      first | exact (prefix_set hpp hq).trans (List.prefix_append _ _) | exact hpp.trans (List.prefix_append _ _)
    · simp only [go_sem, ↓reduceIte, Nat.reduceEqDiff, Nat.reduceAdd, Nat.reduceMul, Nat.reduceLT, Nat.reduceLeDiff, Int.reduceLT, Int.reduceLE, Int.reduceNeg, Int.reduceAdd, Int.reduceSub, Int.reduceMul, Int.reduceToNat, Int.reduceEq, Int.reduceNe, Int.cast_ofNat_Int, Int.natCast_one, Int.natCast_zero, Int.natCast_add, reduceCtorEq, faultV, Lin.cells, Lin.zero, look_app_lt l7, look_app_lt l8, set_app_lt l7, lsa l7 l7, h7, h8, eq_true h1, eq_true h2, eq_false k1, eq_false k2, putN, coef, one, hw1, hw2, look_set l7, ssa l7, List.set_set, e1, e2, e3]
      first | exact (prefix_set hpp hq).trans (List.prefix_append _ _) | exact hpp.trans (List.prefix_append _ _)
end Go.Proofs.YtkgdkommahgakaaDoor.Abs
