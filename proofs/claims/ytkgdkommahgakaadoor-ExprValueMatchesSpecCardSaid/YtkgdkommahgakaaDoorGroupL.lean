/- Part GroupL of the proof: an abstract machine for the program's calls, and what functions do on it. It has no conditions. -/
import Derived.Test.YtkgdkommahgakaaDoorGroupK
import Derived.Test.YtkgdkommahgakaaDoorGroupF
import Derived.Laws.Bits64b
import Derived.Test.YtkgdkommahgakaaDoorGroupI
/- The reference's faults (f25 ExprFault, f27 NamedFault). -/
namespace Go.Proofs.YtkgdkommahgakaaDoor.Abs
open Go Go.RowKit Gram
set_option linter.unusedVariables false
set_option linter.unusedSimpArgs false
set_option maxRecDepth 100000

set_option maxHeartbeats 2000000 in
theorem f27_ok (X : Ext) (S : List Sy) (n c : Nat) (ow : Bool) (sz : Nat) (σ : Heap) (hl : look σ n = some ⟨S.flatMap Sy.cells, ow, sz⟩) (ht : ∀ x ∈ S, x.few) (hz : S.length ≤ 140737488351232) :
    CW Tryd.prog X 27 [.slice (some ⟨n, 0, none⟩) S.length c] σ fun v σ' => v = faultV (symsFault S) ∧ σ <+: σ' := by
  refine cw_in Tryd.func27 rfl Tryd.ntmps27 (rs := [.cell 2 26]) rfl (by kernel_rfl) (by exact Nat.le_of_ble_eq_true rfl) ?_
  have hn : n < σ.length := look_lt hl
  have hel := Sy.len S
  by_cases h0 : 8000 < S.length
  · simp only [go_sem, ↓reduceIte, Nat.reduceEqDiff, Nat.reduceAdd, Nat.reduceMul, Nat.reduceLT, Nat.reduceLeDiff, Int.reduceLT, Int.reduceLE, Int.reduceNeg, Int.reduceAdd, Int.reduceSub, Int.reduceMul, Int.reduceToNat, Int.reduceEq, Int.reduceNe, Int.cast_ofNat_Int, Int.natCast_one, Int.natCast_zero, Int.natCast_add, reduceCtorEq, eq_true (show (8000 : Int) < (S.length : Int) by omega)]
    refine (f20_ok X 2 (-2) _).mono ?_
    rintro _ ρ ⟨rfl, hp⟩
    have h2 := look_prefix hp (show look (σ ++ [some ⟨[.int .i64 0, .int .i64 0], true, 0⟩]) σ.length = _ by rw [look_app_new, look_zero])
    simp only [go_sem, ↓reduceIte, Nat.reduceEqDiff, Nat.reduceAdd, Nat.reduceMul, Nat.reduceLT, Nat.reduceLeDiff, Int.reduceLT, Int.reduceLE, Int.reduceNeg, Int.reduceAdd, Int.reduceSub, Int.reduceMul, Int.reduceToNat, Int.reduceEq, Int.reduceNe, Int.cast_ofNat_Int, Int.natCast_one, Int.natCast_zero, Int.natCast_add, reduceCtorEq, look_set (look_lt h2), h2]
    rw [symsFault, if_pos h0]
    exact ⟨rfl, prefix_set ((List.prefix_append _ _).trans hp) (Nat.le_refl _)⟩
  · have he : symsFault S = firstS 0 S := by rw [symsFault, if_neg h0]
    rw [he]
    simp only [go_sem, ↓reduceIte, Nat.reduceEqDiff, Nat.reduceAdd, Nat.reduceMul, Nat.reduceLT, Nat.reduceLeDiff, Int.reduceLT, Int.reduceLE, Int.reduceNeg, Int.reduceAdd, Int.reduceSub, Int.reduceMul, Int.reduceToNat, Int.reduceEq, Int.reduceNe, Int.cast_ofNat_Int, Int.natCast_one, Int.natCast_zero, Int.natCast_add, reduceCtorEq, eq_false (show ¬ (8000 : Int) < (S.length : Int) by omega)]
    refine LW_run (fun k T ρ => ∃ (i : Nat), i + k = S.length ∧ σ ++ [some ⟨[.int .i64 0, .int .i64 0], true, 0⟩] <+: ρ ∧ T 0 = .slice (some ⟨n, 0, none⟩) S.length c ∧ T 2 = .pointer (some ⟨σ.length, 0, none⟩) ∧ T 3 = .int .i64 i ∧ firstS 0 S = firstS i (S.drop i)) S.length ⟨0, by simp, List.prefix_rfl, rfl, rfl, rfl, rfl⟩ ?_
    rintro k T ρ ⟨i, hk, hp, t0, t2, t3, hv⟩
    have hl1 := look_prefix ((List.prefix_append _ _).trans hp) hl
    have h2 := look_prefix hp (show look (σ ++ [some ⟨[.int .i64 0, .int .i64 0], true, 0⟩]) σ.length = _ by rw [look_app_new, look_zero])
    have hn1 := look_lt hl1
    have h2l := look_lt h2
    simp only [go_sem, ↓reduceIte, Nat.reduceEqDiff, Nat.reduceAdd, Nat.reduceMul, Nat.reduceLT, Nat.reduceLeDiff, Int.reduceLT, Int.reduceLE, Int.reduceNeg, Int.reduceAdd, Int.reduceSub, Int.reduceMul, Int.reduceToNat, Int.reduceEq, Int.reduceNe, Int.cast_ofNat_Int, Int.natCast_one, Int.natCast_zero, Int.natCast_add, reduceCtorEq, t0, t2, t3]
    refine fork_dec (fun _ => ?_) (fun _ => ?_)
    · rename_i hi
      obtain ⟨x, hx⟩ : ∃ x, S[i]? = some x := ⟨_, List.getElem?_eq_getElem (by omega)⟩
      have hw : IntKind.i64.wrap ((i : Int) + 1) = (i : Int) + 1 := wrap64 (by omega)
      have hw10 : IntKind.i64.wrap (-10 - (i : Int)) = -10 - (i : Int) := wrap64 (by omega)
      obtain ⟨m1, m2, m3⟩ := ht x (List.mem_of_getElem? hx)
      rw [drop_at hx, firstS] at hv
      have hc0 : (S.flatMap Sy.cells)[i * 4]? = some (.string (str x.name)) := by
        have h4 : ((S.flatMap Sy.cells).drop (i * 4)).take 4 = x.cells := Sy.take hx
        have : (((S.flatMap Sy.cells).drop (i * 4)).take 4)[0]? = x.cells[0]? := by rw [h4]
        rw [List.getElem?_take, if_pos (by omega), List.getElem?_drop, Nat.add_zero] at this
        exact this
      have hd := Sy.drop1 hx
      simp only [go_sem, ↓reduceIte, Nat.reduceEqDiff, Nat.reduceAdd, Nat.reduceMul, Nat.reduceLT, Nat.reduceLeDiff, Int.reduceLT, Int.reduceLE, Int.reduceNeg, Int.reduceAdd, Int.reduceSub, Int.reduceMul, Int.reduceToNat, Int.reduceEq, Int.reduceNe, Int.cast_ofNat_Int, Int.natCast_one, Int.natCast_zero, Int.natCast_add, reduceCtorEq, t0, t2, t3, hi, look_app_lt hn1, hl1, hc0, hd, hel, show i * 4 + 1 + 3 ≤ S.length * 4 by omega, Lin.cells]
      refine (f54_ok X x.name m1 _).mono ?_
      rintro _ _ ⟨rfl, rfl⟩
      have bad : ∀ (e : Int), e ≠ 0 → symErr x = e → firstS 0 S = (e, -10 - (i : Int)) := fun e h1 h2 => by rw [hv, h2, if_pos h1]
      have good : symErr x = 0 → firstS 0 S = firstS (i + 1) (S.drop (i + 1)) := fun h2 => by rw [hv, h2, if_neg (by simp)]
      cases q1 : nameOk x.name with
      | false =>
        simp only [go_sem, ↓reduceIte, Nat.reduceEqDiff, Nat.reduceAdd, Nat.reduceMul, Nat.reduceLT, Nat.reduceLeDiff, Int.reduceLT, Int.reduceLE, Int.reduceNeg, Int.reduceAdd, Int.reduceSub, Int.reduceMul, Int.reduceToNat, Int.reduceEq, Int.reduceNe, Int.cast_ofNat_Int, Int.natCast_one, Int.natCast_zero, Int.natCast_add, reduceCtorEq, t0, t2, t3, hw10]
        refine (f20_ok X 12 _ _).mono ?_
        rintro _ ρ2 ⟨rfl, hp2⟩
        have h3 := look_prefix hp2 ((look_app_lt h2l).trans h2)
        simp only [go_sem, ↓reduceIte, Nat.reduceEqDiff, Nat.reduceAdd, Nat.reduceMul, Nat.reduceLT, Nat.reduceLeDiff, Int.reduceLT, Int.reduceLE, Int.reduceNeg, Int.reduceAdd, Int.reduceSub, Int.reduceMul, Int.reduceToNat, Int.reduceEq, Int.reduceNe, Int.cast_ofNat_Int, Int.natCast_one, Int.natCast_zero, Int.natCast_add, reduceCtorEq, t0, t2, t3, look_set (look_lt h3), h3]
        rw [bad 12 (by omega) (by rw [symErr, if_pos (.inl q1)])]
        exact ⟨rfl, prefix_set ((List.prefix_append _ _).trans (hp.trans ((List.prefix_append _ _).trans hp2))) (Nat.le_refl _)⟩
      | true =>
        by_cases a1 : x.lin.sym = []
        · simp only [go_sem, ↓reduceIte, Nat.reduceEqDiff, Nat.reduceAdd, Nat.reduceMul, Nat.reduceLT, Nat.reduceLeDiff, Int.reduceLT, Int.reduceLE, Int.reduceNeg, Int.reduceAdd, Int.reduceSub, Int.reduceMul, Int.reduceToNat, Int.reduceEq, Int.reduceNe, Int.cast_ofNat_Int, Int.natCast_one, Int.natCast_zero, Int.natCast_add, reduceCtorEq, t0, t2, t3, eq_true a1]
          by_cases b1 : x.lin.minus = []
          · simp only [go_sem, ↓reduceIte, Nat.reduceEqDiff, Nat.reduceAdd, Nat.reduceMul, Nat.reduceLT, Nat.reduceLeDiff, Int.reduceLT, Int.reduceLE, Int.reduceNeg, Int.reduceAdd, Int.reduceSub, Int.reduceMul, Int.reduceToNat, Int.reduceEq, Int.reduceNe, Int.cast_ofNat_Int, Int.natCast_one, Int.natCast_zero, Int.natCast_add, reduceCtorEq, t0, t2, t3, eq_true b1, eq_true a1]
            refine (f22_ok X x.lin.num _ _ _).mono ?_
            rintro _ _ ⟨rfl, rfl⟩
            have hnb : ¬ (nameOk x.name = false ∨ (decide (x.lin.sym = []) || nameOk x.lin.sym) = false ∨ (decide (x.lin.minus = []) || nameOk x.lin.minus) = false) := by simp [q1, b1, a1]
            by_cases z1 : -1099511627776 ≤ x.lin.num ∧ x.lin.num ≤ 1099511627776
            · by_cases z2 : x.lin.sym = x.lin.minus ∧ x.lin.sym ≠ []
              · simp only [go_sem, ↓reduceIte, Nat.reduceEqDiff, Nat.reduceAdd, Nat.reduceMul, Nat.reduceLT, Nat.reduceLeDiff, Int.reduceLT, Int.reduceLE, Int.reduceNeg, Int.reduceAdd, Int.reduceSub, Int.reduceMul, Int.reduceToNat, Int.reduceEq, Int.reduceNe, Int.cast_ofNat_Int, Int.natCast_one, Int.natCast_zero, Int.natCast_add, reduceCtorEq, t0, t2, t3, eq_true z1, eq_true z2.1, eq_false z2.2, hw, hw10]
                refine (f20_ok X 3 _ _).mono ?_
                rintro _ ρ2 ⟨rfl, hp2⟩
                have h3 := look_prefix hp2 ((look_app_lt h2l).trans h2)
                simp only [go_sem, ↓reduceIte, Nat.reduceEqDiff, Nat.reduceAdd, Nat.reduceMul, Nat.reduceLT, Nat.reduceLeDiff, Int.reduceLT, Int.reduceLE, Int.reduceNeg, Int.reduceAdd, Int.reduceSub, Int.reduceMul, Int.reduceToNat, Int.reduceEq, Int.reduceNe, Int.cast_ofNat_Int, Int.natCast_one, Int.natCast_zero, Int.natCast_add, reduceCtorEq, t0, t2, t3, look_set (look_lt h3), h3]
                rw [bad 3 (by omega) (by rw [symErr, if_neg hnb, if_pos (.inr (.inr z2))])]
                exact ⟨rfl, prefix_set ((List.prefix_append _ _).trans (hp.trans ((List.prefix_append _ _).trans hp2))) (Nat.le_refl _)⟩
              · have hg := good (by rw [symErr, if_neg hnb, if_neg (fun h => z2 (by rcases h with h | h | h <;> first | exact h | omega))])
                by_cases z3 : x.lin.sym = x.lin.minus
                · have z4 : x.lin.sym = [] := Decidable.not_not.1 fun h => z2 ⟨z3, h⟩
                  simp only [go_sem, ↓reduceIte, Nat.reduceEqDiff, Nat.reduceAdd, Nat.reduceMul, Nat.reduceLT, Nat.reduceLeDiff, Int.reduceLT, Int.reduceLE, Int.reduceNeg, Int.reduceAdd, Int.reduceSub, Int.reduceMul, Int.reduceToNat, Int.reduceEq, Int.reduceNe, Int.cast_ofNat_Int, Int.natCast_one, Int.natCast_zero, Int.natCast_add, reduceCtorEq, t0, t2, t3, eq_true z1, eq_true z4, hw, hw10]
                  refine ⟨k - 1, by omega, i + 1, by omega, hp.trans (List.prefix_append _ _), ?_⟩
                  (repeat' (first | exact rfl | apply And.intro))
                  exact hg
                · simp only [go_sem, ↓reduceIte, Nat.reduceEqDiff, Nat.reduceAdd, Nat.reduceMul, Nat.reduceLT, Nat.reduceLeDiff, Int.reduceLT, Int.reduceLE, Int.reduceNeg, Int.reduceAdd, Int.reduceSub, Int.reduceMul, Int.reduceToNat, Int.reduceEq, Int.reduceNe, Int.cast_ofNat_Int, Int.natCast_one, Int.natCast_zero, Int.natCast_add, reduceCtorEq, t0, t2, t3, eq_true z1, eq_false z3, eq_true a1, hw, hw10]
                  refine ⟨k - 1, by omega, i + 1, by omega, hp.trans (List.prefix_append _ _), ?_⟩
                  (repeat' (first | exact rfl | apply And.intro))
                  exact hg
            · simp only [go_sem, ↓reduceIte, Nat.reduceEqDiff, Nat.reduceAdd, Nat.reduceMul, Nat.reduceLT, Nat.reduceLeDiff, Int.reduceLT, Int.reduceLE, Int.reduceNeg, Int.reduceAdd, Int.reduceSub, Int.reduceMul, Int.reduceToNat, Int.reduceEq, Int.reduceNe, Int.cast_ofNat_Int, Int.natCast_one, Int.natCast_zero, Int.natCast_add, reduceCtorEq, t0, t2, t3, eq_false z1, eq_true a1, hw, hw10]
              refine (f20_ok X 3 _ _).mono ?_
              rintro _ ρ2 ⟨rfl, hp2⟩
              have h3 := look_prefix hp2 ((look_app_lt h2l).trans h2)
              simp only [go_sem, ↓reduceIte, Nat.reduceEqDiff, Nat.reduceAdd, Nat.reduceMul, Nat.reduceLT, Nat.reduceLeDiff, Int.reduceLT, Int.reduceLE, Int.reduceNeg, Int.reduceAdd, Int.reduceSub, Int.reduceMul, Int.reduceToNat, Int.reduceEq, Int.reduceNe, Int.cast_ofNat_Int, Int.natCast_one, Int.natCast_zero, Int.natCast_add, reduceCtorEq, t0, t2, t3, look_set (look_lt h3), h3]
              rw [bad 3 (by omega) (by rw [symErr, if_neg hnb, if_pos (by omega)])]
              exact ⟨rfl, prefix_set ((List.prefix_append _ _).trans (hp.trans ((List.prefix_append _ _).trans hp2))) (Nat.le_refl _)⟩
          · simp only [go_sem, ↓reduceIte, Nat.reduceEqDiff, Nat.reduceAdd, Nat.reduceMul, Nat.reduceLT, Nat.reduceLeDiff, Int.reduceLT, Int.reduceLE, Int.reduceNeg, Int.reduceAdd, Int.reduceSub, Int.reduceMul, Int.reduceToNat, Int.reduceEq, Int.reduceNe, Int.cast_ofNat_Int, Int.natCast_one, Int.natCast_zero, Int.natCast_add, reduceCtorEq, t0, t2, t3, eq_false b1, eq_true a1]
            refine (f54_ok X x.lin.minus m3 _).mono ?_
            rintro _ _ ⟨rfl, rfl⟩
            cases b2 : nameOk x.lin.minus with
            | false =>
              simp only [go_sem, ↓reduceIte, Nat.reduceEqDiff, Nat.reduceAdd, Nat.reduceMul, Nat.reduceLT, Nat.reduceLeDiff, Int.reduceLT, Int.reduceLE, Int.reduceNeg, Int.reduceAdd, Int.reduceSub, Int.reduceMul, Int.reduceToNat, Int.reduceEq, Int.reduceNe, Int.cast_ofNat_Int, Int.natCast_one, Int.natCast_zero, Int.natCast_add, reduceCtorEq, t0, t2, t3, hw10, eq_false b1, eq_true a1]
              refine (f20_ok X 12 _ _).mono ?_
              rintro _ ρ2 ⟨rfl, hp2⟩
              have h3 := look_prefix hp2 ((look_app_lt h2l).trans h2)
              simp only [go_sem, ↓reduceIte, Nat.reduceEqDiff, Nat.reduceAdd, Nat.reduceMul, Nat.reduceLT, Nat.reduceLeDiff, Int.reduceLT, Int.reduceLE, Int.reduceNeg, Int.reduceAdd, Int.reduceSub, Int.reduceMul, Int.reduceToNat, Int.reduceEq, Int.reduceNe, Int.cast_ofNat_Int, Int.natCast_one, Int.natCast_zero, Int.natCast_add, reduceCtorEq, t0, t2, t3, look_set (look_lt h3), h3]
              rw [bad 12 (by omega) (by rw [symErr, if_pos (.inr (.inr (by simp [b1, b2])))])]
              exact ⟨rfl, prefix_set ((List.prefix_append _ _).trans (hp.trans ((List.prefix_append _ _).trans hp2))) (Nat.le_refl _)⟩
            | true =>
              simp only [go_sem, ↓reduceIte, Nat.reduceEqDiff, Nat.reduceAdd, Nat.reduceMul, Nat.reduceLT, Nat.reduceLeDiff, Int.reduceLT, Int.reduceLE, Int.reduceNeg, Int.reduceAdd, Int.reduceSub, Int.reduceMul, Int.reduceToNat, Int.reduceEq, Int.reduceNe, Int.cast_ofNat_Int, Int.natCast_one, Int.natCast_zero, Int.natCast_add, reduceCtorEq, t0, t2, t3, eq_false b1, eq_true a1]
              refine (f22_ok X x.lin.num _ _ _).mono ?_
              rintro _ _ ⟨rfl, rfl⟩
              have hnb : ¬ (nameOk x.name = false ∨ (decide (x.lin.sym = []) || nameOk x.lin.sym) = false ∨ (decide (x.lin.minus = []) || nameOk x.lin.minus) = false) := by simp [q1, b2, a1]
              by_cases z1 : -1099511627776 ≤ x.lin.num ∧ x.lin.num ≤ 1099511627776
              · by_cases z2 : x.lin.sym = x.lin.minus ∧ x.lin.sym ≠ []
                · simp only [go_sem, ↓reduceIte, Nat.reduceEqDiff, Nat.reduceAdd, Nat.reduceMul, Nat.reduceLT, Nat.reduceLeDiff, Int.reduceLT, Int.reduceLE, Int.reduceNeg, Int.reduceAdd, Int.reduceSub, Int.reduceMul, Int.reduceToNat, Int.reduceEq, Int.reduceNe, Int.cast_ofNat_Int, Int.natCast_one, Int.natCast_zero, Int.natCast_add, reduceCtorEq, t0, t2, t3, eq_true z1, eq_true z2.1, eq_false z2.2, hw, hw10]
                  refine (f20_ok X 3 _ _).mono ?_
                  rintro _ ρ2 ⟨rfl, hp2⟩
                  have h3 := look_prefix hp2 ((look_app_lt h2l).trans h2)
                  simp only [go_sem, ↓reduceIte, Nat.reduceEqDiff, Nat.reduceAdd, Nat.reduceMul, Nat.reduceLT, Nat.reduceLeDiff, Int.reduceLT, Int.reduceLE, Int.reduceNeg, Int.reduceAdd, Int.reduceSub, Int.reduceMul, Int.reduceToNat, Int.reduceEq, Int.reduceNe, Int.cast_ofNat_Int, Int.natCast_one, Int.natCast_zero, Int.natCast_add, reduceCtorEq, t0, t2, t3, look_set (look_lt h3), h3]
                  rw [bad 3 (by omega) (by rw [symErr, if_neg hnb, if_pos (.inr (.inr z2))])]
                  exact ⟨rfl, prefix_set ((List.prefix_append _ _).trans (hp.trans ((List.prefix_append _ _).trans hp2))) (Nat.le_refl _)⟩
                · have hg := good (by rw [symErr, if_neg hnb, if_neg (fun h => z2 (by rcases h with h | h | h <;> first | exact h | omega))])
                  by_cases z3 : x.lin.sym = x.lin.minus
                  · have z4 : x.lin.sym = [] := Decidable.not_not.1 fun h => z2 ⟨z3, h⟩
                    simp only [go_sem, ↓reduceIte, Nat.reduceEqDiff, Nat.reduceAdd, Nat.reduceMul, Nat.reduceLT, Nat.reduceLeDiff, Int.reduceLT, Int.reduceLE, Int.reduceNeg, Int.reduceAdd, Int.reduceSub, Int.reduceMul, Int.reduceToNat, Int.reduceEq, Int.reduceNe, Int.cast_ofNat_Int, Int.natCast_one, Int.natCast_zero, Int.natCast_add, reduceCtorEq, t0, t2, t3, eq_true z1, eq_true z4, hw, hw10]
                    refine ⟨k - 1, by omega, i + 1, by omega, hp.trans (List.prefix_append _ _), ?_⟩
                    (repeat' (first | exact rfl | apply And.intro))
                    exact hg
                  · simp only [go_sem, ↓reduceIte, Nat.reduceEqDiff, Nat.reduceAdd, Nat.reduceMul, Nat.reduceLT, Nat.reduceLeDiff, Int.reduceLT, Int.reduceLE, Int.reduceNeg, Int.reduceAdd, Int.reduceSub, Int.reduceMul, Int.reduceToNat, Int.reduceEq, Int.reduceNe, Int.cast_ofNat_Int, Int.natCast_one, Int.natCast_zero, Int.natCast_add, reduceCtorEq, t0, t2, t3, eq_true z1, eq_false z3, eq_true a1, hw, hw10]
                    refine ⟨k - 1, by omega, i + 1, by omega, hp.trans (List.prefix_append _ _), ?_⟩
                    (repeat' (first | exact rfl | apply And.intro))
                    exact hg
              · simp only [go_sem, ↓reduceIte, Nat.reduceEqDiff, Nat.reduceAdd, Nat.reduceMul, Nat.reduceLT, Nat.reduceLeDiff, Int.reduceLT, Int.reduceLE, Int.reduceNeg, Int.reduceAdd, Int.reduceSub, Int.reduceMul, Int.reduceToNat, Int.reduceEq, Int.reduceNe, Int.cast_ofNat_Int, Int.natCast_one, Int.natCast_zero, Int.natCast_add, reduceCtorEq, t0, t2, t3, eq_false z1, eq_true a1, hw, hw10]
                refine (f20_ok X 3 _ _).mono ?_
                rintro _ ρ2 ⟨rfl, hp2⟩
                have h3 := look_prefix hp2 ((look_app_lt h2l).trans h2)
                simp only [go_sem, ↓reduceIte, Nat.reduceEqDiff, Nat.reduceAdd, Nat.reduceMul, Nat.reduceLT, Nat.reduceLeDiff, Int.reduceLT, Int.reduceLE, Int.reduceNeg, Int.reduceAdd, Int.reduceSub, Int.reduceMul, Int.reduceToNat, Int.reduceEq, Int.reduceNe, Int.cast_ofNat_Int, Int.natCast_one, Int.natCast_zero, Int.natCast_add, reduceCtorEq, t0, t2, t3, look_set (look_lt h3), h3]
                rw [bad 3 (by omega) (by rw [symErr, if_neg hnb, if_pos (by omega)])]
                exact ⟨rfl, prefix_set ((List.prefix_append _ _).trans (hp.trans ((List.prefix_append _ _).trans hp2))) (Nat.le_refl _)⟩
        · simp only [go_sem, ↓reduceIte, Nat.reduceEqDiff, Nat.reduceAdd, Nat.reduceMul, Nat.reduceLT, Nat.reduceLeDiff, Int.reduceLT, Int.reduceLE, Int.reduceNeg, Int.reduceAdd, Int.reduceSub, Int.reduceMul, Int.reduceToNat, Int.reduceEq, Int.reduceNe, Int.cast_ofNat_Int, Int.natCast_one, Int.natCast_zero, Int.natCast_add, reduceCtorEq, t0, t2, t3, eq_false a1]
          refine (f54_ok X x.lin.sym m2 _).mono ?_
          rintro _ _ ⟨rfl, rfl⟩
          cases a2 : nameOk x.lin.sym with
          | false =>
            simp only [go_sem, ↓reduceIte, Nat.reduceEqDiff, Nat.reduceAdd, Nat.reduceMul, Nat.reduceLT, Nat.reduceLeDiff, Int.reduceLT, Int.reduceLE, Int.reduceNeg, Int.reduceAdd, Int.reduceSub, Int.reduceMul, Int.reduceToNat, Int.reduceEq, Int.reduceNe, Int.cast_ofNat_Int, Int.natCast_one, Int.natCast_zero, Int.natCast_add, reduceCtorEq, t0, t2, t3, hw10, eq_false a1]
            refine (f20_ok X 12 _ _).mono ?_
            rintro _ ρ2 ⟨rfl, hp2⟩
            have h3 := look_prefix hp2 ((look_app_lt h2l).trans h2)
            simp only [go_sem, ↓reduceIte, Nat.reduceEqDiff, Nat.reduceAdd, Nat.reduceMul, Nat.reduceLT, Nat.reduceLeDiff, Int.reduceLT, Int.reduceLE, Int.reduceNeg, Int.reduceAdd, Int.reduceSub, Int.reduceMul, Int.reduceToNat, Int.reduceEq, Int.reduceNe, Int.cast_ofNat_Int, Int.natCast_one, Int.natCast_zero, Int.natCast_add, reduceCtorEq, t0, t2, t3, look_set (look_lt h3), h3]
            rw [bad 12 (by omega) (by rw [symErr, if_pos (.inr (.inl (by simp [a1, a2])))])]
            exact ⟨rfl, prefix_set ((List.prefix_append _ _).trans (hp.trans ((List.prefix_append _ _).trans hp2))) (Nat.le_refl _)⟩
          | true =>
            simp only [go_sem, ↓reduceIte, Nat.reduceEqDiff, Nat.reduceAdd, Nat.reduceMul, Nat.reduceLT, Nat.reduceLeDiff, Int.reduceLT, Int.reduceLE, Int.reduceNeg, Int.reduceAdd, Int.reduceSub, Int.reduceMul, Int.reduceToNat, Int.reduceEq, Int.reduceNe, Int.cast_ofNat_Int, Int.natCast_one, Int.natCast_zero, Int.natCast_add, reduceCtorEq, t0, t2, t3, eq_false a1]
            by_cases b1 : x.lin.minus = []
            · simp only [go_sem, ↓reduceIte, Nat.reduceEqDiff, Nat.reduceAdd, Nat.reduceMul, Nat.reduceLT, Nat.reduceLeDiff, Int.reduceLT, Int.reduceLE, Int.reduceNeg, Int.reduceAdd, Int.reduceSub, Int.reduceMul, Int.reduceToNat, Int.reduceEq, Int.reduceNe, Int.cast_ofNat_Int, Int.natCast_one, Int.natCast_zero, Int.natCast_add, reduceCtorEq, t0, t2, t3, eq_true b1, eq_false a1]
              refine (f22_ok X x.lin.num _ _ _).mono ?_
              rintro _ _ ⟨rfl, rfl⟩
              have hnb : ¬ (nameOk x.name = false ∨ (decide (x.lin.sym = []) || nameOk x.lin.sym) = false ∨ (decide (x.lin.minus = []) || nameOk x.lin.minus) = false) := by simp [q1, b1, a2]
              by_cases z1 : -1099511627776 ≤ x.lin.num ∧ x.lin.num ≤ 1099511627776
              · by_cases z2 : x.lin.sym = x.lin.minus ∧ x.lin.sym ≠ []
                · simp only [go_sem, ↓reduceIte, Nat.reduceEqDiff, Nat.reduceAdd, Nat.reduceMul, Nat.reduceLT, Nat.reduceLeDiff, Int.reduceLT, Int.reduceLE, Int.reduceNeg, Int.reduceAdd, Int.reduceSub, Int.reduceMul, Int.reduceToNat, Int.reduceEq, Int.reduceNe, Int.cast_ofNat_Int, Int.natCast_one, Int.natCast_zero, Int.natCast_add, reduceCtorEq, t0, t2, t3, eq_true z1, eq_true z2.1, eq_false z2.2, hw, hw10]
                  refine (f20_ok X 3 _ _).mono ?_
                  rintro _ ρ2 ⟨rfl, hp2⟩
                  have h3 := look_prefix hp2 ((look_app_lt h2l).trans h2)
                  simp only [go_sem, ↓reduceIte, Nat.reduceEqDiff, Nat.reduceAdd, Nat.reduceMul, Nat.reduceLT, Nat.reduceLeDiff, Int.reduceLT, Int.reduceLE, Int.reduceNeg, Int.reduceAdd, Int.reduceSub, Int.reduceMul, Int.reduceToNat, Int.reduceEq, Int.reduceNe, Int.cast_ofNat_Int, Int.natCast_one, Int.natCast_zero, Int.natCast_add, reduceCtorEq, t0, t2, t3, look_set (look_lt h3), h3]
                  rw [bad 3 (by omega) (by rw [symErr, if_neg hnb, if_pos (.inr (.inr z2))])]
                  exact ⟨rfl, prefix_set ((List.prefix_append _ _).trans (hp.trans ((List.prefix_append _ _).trans hp2))) (Nat.le_refl _)⟩
                · have hg := good (by rw [symErr, if_neg hnb, if_neg (fun h => z2 (by rcases h with h | h | h <;> first | exact h | omega))])
                  by_cases z3 : x.lin.sym = x.lin.minus
                  · have z4 : x.lin.sym = [] := Decidable.not_not.1 fun h => z2 ⟨z3, h⟩
                    simp only [go_sem, ↓reduceIte, Nat.reduceEqDiff, Nat.reduceAdd, Nat.reduceMul, Nat.reduceLT, Nat.reduceLeDiff, Int.reduceLT, Int.reduceLE, Int.reduceNeg, Int.reduceAdd, Int.reduceSub, Int.reduceMul, Int.reduceToNat, Int.reduceEq, Int.reduceNe, Int.cast_ofNat_Int, Int.natCast_one, Int.natCast_zero, Int.natCast_add, reduceCtorEq, t0, t2, t3, eq_true z1, eq_true z4, hw, hw10]
                    refine ⟨k - 1, by omega, i + 1, by omega, hp.trans (List.prefix_append _ _), ?_⟩
                    (repeat' (first | exact rfl | apply And.intro))
                    exact hg
                  · simp only [go_sem, ↓reduceIte, Nat.reduceEqDiff, Nat.reduceAdd, Nat.reduceMul, Nat.reduceLT, Nat.reduceLeDiff, Int.reduceLT, Int.reduceLE, Int.reduceNeg, Int.reduceAdd, Int.reduceSub, Int.reduceMul, Int.reduceToNat, Int.reduceEq, Int.reduceNe, Int.cast_ofNat_Int, Int.natCast_one, Int.natCast_zero, Int.natCast_add, reduceCtorEq, t0, t2, t3, eq_true z1, eq_false z3, eq_false a1, hw, hw10]
                    refine ⟨k - 1, by omega, i + 1, by omega, hp.trans (List.prefix_append _ _), ?_⟩
                    (repeat' (first | exact rfl | apply And.intro))
                    exact hg
              · simp only [go_sem, ↓reduceIte, Nat.reduceEqDiff, Nat.reduceAdd, Nat.reduceMul, Nat.reduceLT, Nat.reduceLeDiff, Int.reduceLT, Int.reduceLE, Int.reduceNeg, Int.reduceAdd, Int.reduceSub, Int.reduceMul, Int.reduceToNat, Int.reduceEq, Int.reduceNe, Int.cast_ofNat_Int, Int.natCast_one, Int.natCast_zero, Int.natCast_add, reduceCtorEq, t0, t2, t3, eq_false z1, eq_false a1, hw, hw10]
                refine (f20_ok X 3 _ _).mono ?_
                rintro _ ρ2 ⟨rfl, hp2⟩
                have h3 := look_prefix hp2 ((look_app_lt h2l).trans h2)
                simp only [go_sem, ↓reduceIte, Nat.reduceEqDiff, Nat.reduceAdd, Nat.reduceMul, Nat.reduceLT, Nat.reduceLeDiff, Int.reduceLT, Int.reduceLE, Int.reduceNeg, Int.reduceAdd, Int.reduceSub, Int.reduceMul, Int.reduceToNat, Int.reduceEq, Int.reduceNe, Int.cast_ofNat_Int, Int.natCast_one, Int.natCast_zero, Int.natCast_add, reduceCtorEq, t0, t2, t3, look_set (look_lt h3), h3]
                rw [bad 3 (by omega) (by rw [symErr, if_neg hnb, if_pos (by omega)])]
                exact ⟨rfl, prefix_set ((List.prefix_append _ _).trans (hp.trans ((List.prefix_append _ _).trans hp2))) (Nat.le_refl _)⟩
            · simp only [go_sem, ↓reduceIte, Nat.reduceEqDiff, Nat.reduceAdd, Nat.reduceMul, Nat.reduceLT, Nat.reduceLeDiff, Int.reduceLT, Int.reduceLE, Int.reduceNeg, Int.reduceAdd, Int.reduceSub, Int.reduceMul, Int.reduceToNat, Int.reduceEq, Int.reduceNe, Int.cast_ofNat_Int, Int.natCast_one, Int.natCast_zero, Int.natCast_add, reduceCtorEq, t0, t2, t3, eq_false b1, eq_false a1]
              refine (f54_ok X x.lin.minus m3 _).mono ?_
              rintro _ _ ⟨rfl, rfl⟩
              cases b2 : nameOk x.lin.minus with
              | false =>
                simp only [go_sem, ↓reduceIte, Nat.reduceEqDiff, Nat.reduceAdd, Nat.reduceMul, Nat.reduceLT, Nat.reduceLeDiff, Int.reduceLT, Int.reduceLE, Int.reduceNeg, Int.reduceAdd, Int.reduceSub, Int.reduceMul, Int.reduceToNat, Int.reduceEq, Int.reduceNe, Int.cast_ofNat_Int, Int.natCast_one, Int.natCast_zero, Int.natCast_add, reduceCtorEq, t0, t2, t3, hw10, eq_false b1, eq_false a1]
                refine (f20_ok X 12 _ _).mono ?_
                rintro _ ρ2 ⟨rfl, hp2⟩
                have h3 := look_prefix hp2 ((look_app_lt h2l).trans h2)
                simp only [go_sem, ↓reduceIte, Nat.reduceEqDiff, Nat.reduceAdd, Nat.reduceMul, Nat.reduceLT, Nat.reduceLeDiff, Int.reduceLT, Int.reduceLE, Int.reduceNeg, Int.reduceAdd, Int.reduceSub, Int.reduceMul, Int.reduceToNat, Int.reduceEq, Int.reduceNe, Int.cast_ofNat_Int, Int.natCast_one, Int.natCast_zero, Int.natCast_add, reduceCtorEq, t0, t2, t3, look_set (look_lt h3), h3]
                rw [bad 12 (by omega) (by rw [symErr, if_pos (.inr (.inr (by simp [b1, b2])))])]
                exact ⟨rfl, prefix_set ((List.prefix_append _ _).trans (hp.trans ((List.prefix_append _ _).trans hp2))) (Nat.le_refl _)⟩
              | true =>
                simp only [go_sem, ↓reduceIte, Nat.reduceEqDiff, Nat.reduceAdd, Nat.reduceMul, Nat.reduceLT, Nat.reduceLeDiff, Int.reduceLT, Int.reduceLE, Int.reduceNeg, Int.reduceAdd, Int.reduceSub, Int.reduceMul, Int.reduceToNat, Int.reduceEq, Int.reduceNe, Int.cast_ofNat_Int, Int.natCast_one, Int.natCast_zero, Int.natCast_add, reduceCtorEq, t0, t2, t3, eq_false b1, eq_false a1]
                refine (f22_ok X x.lin.num _ _ _).mono ?_
                rintro _ _ ⟨rfl, rfl⟩
                have hnb : ¬ (nameOk x.name = false ∨ (decide (x.lin.sym = []) || nameOk x.lin.sym) = false ∨ (decide (x.lin.minus = []) || nameOk x.lin.minus) = false) := by simp [q1, b2, a2]
                by_cases z1 : -1099511627776 ≤ x.lin.num ∧ x.lin.num ≤ 1099511627776
                · by_cases z2 : x.lin.sym = x.lin.minus ∧ x.lin.sym ≠ []
                  · simp only [go_sem, ↓reduceIte, Nat.reduceEqDiff, Nat.reduceAdd, Nat.reduceMul, Nat.reduceLT, Nat.reduceLeDiff, Int.reduceLT, Int.reduceLE, Int.reduceNeg, Int.reduceAdd, Int.reduceSub, Int.reduceMul, Int.reduceToNat, Int.reduceEq, Int.reduceNe, Int.cast_ofNat_Int, Int.natCast_one, Int.natCast_zero, Int.natCast_add, reduceCtorEq, t0, t2, t3, eq_true z1, eq_true z2.1, eq_false z2.2, hw, hw10]
                    refine (f20_ok X 3 _ _).mono ?_
                    rintro _ ρ2 ⟨rfl, hp2⟩
                    have h3 := look_prefix hp2 ((look_app_lt h2l).trans h2)
                    simp only [go_sem, ↓reduceIte, Nat.reduceEqDiff, Nat.reduceAdd, Nat.reduceMul, Nat.reduceLT, Nat.reduceLeDiff, Int.reduceLT, Int.reduceLE, Int.reduceNeg, Int.reduceAdd, Int.reduceSub, Int.reduceMul, Int.reduceToNat, Int.reduceEq, Int.reduceNe, Int.cast_ofNat_Int, Int.natCast_one, Int.natCast_zero, Int.natCast_add, reduceCtorEq, t0, t2, t3, look_set (look_lt h3), h3]
                    rw [bad 3 (by omega) (by rw [symErr, if_neg hnb, if_pos (.inr (.inr z2))])]
                    exact ⟨rfl, prefix_set ((List.prefix_append _ _).trans (hp.trans ((List.prefix_append _ _).trans hp2))) (Nat.le_refl _)⟩
                  · have hg := good (by rw [symErr, if_neg hnb, if_neg (fun h => z2 (by rcases h with h | h | h <;> first | exact h | omega))])
                    by_cases z3 : x.lin.sym = x.lin.minus
                    · have z4 : x.lin.sym = [] := Decidable.not_not.1 fun h => z2 ⟨z3, h⟩
                      simp only [go_sem, ↓reduceIte, Nat.reduceEqDiff, Nat.reduceAdd, Nat.reduceMul, Nat.reduceLT, Nat.reduceLeDiff, Int.reduceLT, Int.reduceLE, Int.reduceNeg, Int.reduceAdd, Int.reduceSub, Int.reduceMul, Int.reduceToNat, Int.reduceEq, Int.reduceNe, Int.cast_ofNat_Int, Int.natCast_one, Int.natCast_zero, Int.natCast_add, reduceCtorEq, t0, t2, t3, eq_true z1, eq_true z4, hw, hw10]
                      refine ⟨k - 1, by omega, i + 1, by omega, hp.trans (List.prefix_append _ _), ?_⟩
                      (repeat' (first | exact rfl | apply And.intro))
                      exact hg
                    · simp only [go_sem, ↓reduceIte, Nat.reduceEqDiff, Nat.reduceAdd, Nat.reduceMul, Nat.reduceLT, Nat.reduceLeDiff, Int.reduceLT, Int.reduceLE, Int.reduceNeg, Int.reduceAdd, Int.reduceSub, Int.reduceMul, Int.reduceToNat, Int.reduceEq, Int.reduceNe, Int.cast_ofNat_Int, Int.natCast_one, Int.natCast_zero, Int.natCast_add, reduceCtorEq, t0, t2, t3, eq_true z1, eq_false z3, eq_false a1, hw, hw10]
                      refine ⟨k - 1, by omega, i + 1, by omega, hp.trans (List.prefix_append _ _), ?_⟩
                      (repeat' (first | exact rfl | apply And.intro))
                      exact hg
                · simp only [go_sem, ↓reduceIte, Nat.reduceEqDiff, Nat.reduceAdd, Nat.reduceMul, Nat.reduceLT, Nat.reduceLeDiff, Int.reduceLT, Int.reduceLE, Int.reduceNeg, Int.reduceAdd, Int.reduceSub, Int.reduceMul, Int.reduceToNat, Int.reduceEq, Int.reduceNe, Int.cast_ofNat_Int, Int.natCast_one, Int.natCast_zero, Int.natCast_add, reduceCtorEq, t0, t2, t3, eq_false z1, eq_false a1, hw, hw10]
                  refine (f20_ok X 3 _ _).mono ?_
                  rintro _ ρ2 ⟨rfl, hp2⟩
                  have h3 := look_prefix hp2 ((look_app_lt h2l).trans h2)
                  simp only [go_sem, ↓reduceIte, Nat.reduceEqDiff, Nat.reduceAdd, Nat.reduceMul, Nat.reduceLT, Nat.reduceLeDiff, Int.reduceLT, Int.reduceLE, Int.reduceNeg, Int.reduceAdd, Int.reduceSub, Int.reduceMul, Int.reduceToNat, Int.reduceEq, Int.reduceNe, Int.cast_ofNat_Int, Int.natCast_one, Int.natCast_zero, Int.natCast_add, reduceCtorEq, t0, t2, t3, look_set (look_lt h3), h3]
                  rw [bad 3 (by omega) (by rw [symErr, if_neg hnb, if_pos (by omega)])]
                  exact ⟨rfl, prefix_set ((List.prefix_append _ _).trans (hp.trans ((List.prefix_append _ _).trans hp2))) (Nat.le_refl _)⟩
    · rename_i hi
      have hii : i = S.length := by omega
      subst hii
      rw [List.drop_eq_nil_of_le (Nat.le_refl _), firstS] at hv
      rw [hv]
      simp only [go_sem, ↓reduceIte, Nat.reduceEqDiff, Nat.reduceAdd, Nat.reduceMul, Nat.reduceLT, Nat.reduceLeDiff, Int.reduceLT, Int.reduceLE, Int.reduceNeg, Int.reduceAdd, Int.reduceSub, Int.reduceMul, Int.reduceToNat, Int.reduceEq, Int.reduceNe, Int.cast_ofNat_Int, Int.natCast_one, Int.natCast_zero, Int.natCast_add, reduceCtorEq, t0, t2, t3, look_set h2l, h2]
      exact ⟨rfl, prefix_set ((List.prefix_append _ _).trans hp) (Nat.le_refl _)⟩
end Go.Proofs.YtkgdkommahgakaaDoor.Abs

/- The reference's operations on numbers (f107 abs, f109 power, f108 down, f110 bits, f88 operate). -/
namespace Go.Proofs.YtkgdkommahgakaaDoor.Abs
open Go Go.RowKit Gram
set_option linter.unusedVariables false
set_option linter.unusedSimpArgs false
set_option maxRecDepth 100000

def absI (n : Int) : Int := if n < 0 then -n else n
theorem f107_ok (X : Ext) (n : Int) (hn : -4611686018427387904 ≤ n ∧ n ≤ 4611686018427387904) (σ : Heap) : CW Tryd.prog X 107 [.int .i64 n] σ fun v σ' => v = .int .i64 (absI n) ∧ σ' = σ := by
  refine cw_in Tryd.func107 rfl Tryd.ntmps107 (rs := [.tmp 2]) rfl (by kernel_rfl) (by exact Nat.le_of_ble_eq_true rfl) ?_
  unfold absI
  by_cases h : n < 0
  · have hw : IntKind.i64.wrap (0 - n) = -n := by rw [wrap64 (by omega)]; omega
    simp only [go_sem, ↓reduceIte, Nat.reduceEqDiff, Nat.reduceAdd, Nat.reduceMul, Nat.reduceLT, Nat.reduceLeDiff, Int.reduceLT, Int.reduceLE, Int.reduceNeg, Int.reduceAdd, Int.reduceSub, Int.reduceMul, Int.reduceToNat, Int.reduceEq, Int.reduceNe, Int.cast_ofNat_Int, Int.natCast_one, Int.natCast_zero, Int.natCast_add, reduceCtorEq, eq_true h, hw]
  · simp only [go_sem, ↓reduceIte, Nat.reduceEqDiff, Nat.reduceAdd, Nat.reduceMul, Nat.reduceLT, Nat.reduceLeDiff, Int.reduceLT, Int.reduceLE, Int.reduceNeg, Int.reduceAdd, Int.reduceSub, Int.reduceMul, Int.reduceToNat, Int.reduceEq, Int.reduceNe, Int.cast_ofNat_Int, Int.natCast_one, Int.natCast_zero, Int.natCast_add, reduceCtorEq, eq_false h]
theorem pow_le40 {b : Nat} (h : b ≤ 40) : 1 ≤ 2 ^ b ∧ 2 ^ b ≤ 1099511627776 := ⟨Nat.one_le_two_pow, Nat.le_trans (Nat.pow_le_pow_right (by omega) h) (by decide)⟩
theorem f109_ok (X : Ext) (b : Nat) (hb : b ≤ 40) (σ : Heap) : CW Tryd.prog X 109 [.int .i64 b] σ fun v σ' => v = .int .i64 ((2 ^ b : Nat) : Int) ∧ σ' = σ := by
  refine cw_in Tryd.func109 rfl Tryd.ntmps109 (rs := [.tmp 2]) rfl (by kernel_rfl) (by exact Nat.le_of_ble_eq_true rfl) ?_
  simp only [go_sem, ↓reduceIte, Nat.reduceEqDiff, Nat.reduceAdd, Nat.reduceMul, Nat.reduceLT, Nat.reduceLeDiff, Int.reduceLT, Int.reduceLE, Int.reduceNeg, Int.reduceAdd, Int.reduceSub, Int.reduceMul, Int.reduceToNat, Int.reduceEq, Int.reduceNe, Int.cast_ofNat_Int, Int.natCast_one, Int.natCast_zero, Int.natCast_add, reduceCtorEq]
  refine LW_run (fun k T ρ => ∃ i : Nat, i + k = b ∧ ρ = σ ∧ T 0 = .int .i64 b ∧ T 3 = .int .i64 ((2 ^ i : Nat) : Int) ∧ T 4 = .int .i64 i) b ⟨0, by simp, rfl, rfl, rfl, rfl⟩ ?_
  rintro k T _ ⟨i, hk, rfl, t0, t3, t4⟩
  simp only [go_sem, ↓reduceIte, Nat.reduceEqDiff, Nat.reduceAdd, Nat.reduceMul, Nat.reduceLT, Nat.reduceLeDiff, Int.reduceLT, Int.reduceLE, Int.reduceNeg, Int.reduceAdd, Int.reduceSub, Int.reduceMul, Int.reduceToNat, Int.reduceEq, Int.reduceNe, Int.cast_ofNat_Int, Int.natCast_one, Int.natCast_zero, Int.natCast_add, reduceCtorEq, t0, t3, t4]
  refine fork_dec (fun _ => ?_) (fun _ => ?_)
  · rename_i hi
    have hp := pow_le40 (b := i + 1) (by omega)
    have hw : IntKind.i64.wrap ((i : Int) + 1) = (i : Int) + 1 := wrap64 (by omega)
    have hw2 : IntKind.i64.wrap (2 * ((2 ^ i : Nat) : Int)) = ((2 ^ (i + 1) : Nat) : Int) := by
      rw [Nat.pow_succ] at hp ⊢
      rw [wrap64 (by omega)]
      omega
    simp only [go_sem, ↓reduceIte, Nat.reduceEqDiff, Nat.reduceAdd, Nat.reduceMul, Nat.reduceLT, Nat.reduceLeDiff, Int.reduceLT, Int.reduceLE, Int.reduceNeg, Int.reduceAdd, Int.reduceSub, Int.reduceMul, Int.reduceToNat, Int.reduceEq, Int.reduceNe, Int.cast_ofNat_Int, Int.natCast_one, Int.natCast_zero, Int.natCast_add, reduceCtorEq, t0, t3, t4, hi, hw, hw2]
    refine ⟨k - 1, by omega, i + 1, by omega, ?_⟩
    (repeat' (first | exact rfl | apply And.intro))
  · rename_i hi
    obtain rfl : i = b := by omega
    simp only [go_sem, ↓reduceIte, Nat.reduceEqDiff, Nat.reduceAdd, Nat.reduceMul, Nat.reduceLT, Nat.reduceLeDiff, Int.reduceLT, Int.reduceLE, Int.reduceNeg, Int.reduceAdd, Int.reduceSub, Int.reduceMul, Int.reduceToNat, Int.reduceEq, Int.reduceNe, Int.cast_ofNat_Int, Int.natCast_one, Int.natCast_zero, Int.natCast_add, reduceCtorEq, t3]
theorem quo_down (a : Int) {p : Int} (hp : 0 < p) : (if a < a.tdiv p * p then a.tdiv p - 1 else a.tdiv p) = a.fdiv p := by
  rw [Int.fdiv_eq_ediv_of_nonneg _ (by omega)]
  have h1 := Int.mul_tdiv_add_tmod a p
  have h2 := Int.tmod_lt_of_pos a hp
  have h3 : -p < a.tmod p := by
    have := Int.lt_tmod_of_pos a hp
    omega
  have h4 : 0 ≤ a.tmod p ∨ a.tmod p < 0 := by omega
  rw [Int.mul_comm] at h1
  generalize a.tdiv p = q at *
  generalize a.tmod p = r at *
  split
  · have hr : r < 0 := by omega
    have e : a = (r + p) + (q - 1) * p := by rw [Int.sub_mul]; omega
    rw [e, Int.add_mul_ediv_right _ _ (by omega), Int.ediv_eq_zero_of_lt (by omega) (by omega)]
    omega
  · have hr : 0 ≤ r := by omega
    have e : a = r + q * p := by omega
    rw [e, Int.add_mul_ediv_right _ _ (by omega), Int.ediv_eq_zero_of_lt (by omega) (by omega)]
    omega
theorem tdiv_le {a p : Int} (hp : 0 < p) : -absI a ≤ a.tdiv p ∧ a.tdiv p ≤ absI a ∧ -absI a ≤ a.tdiv p * p ∧ a.tdiv p * p ≤ absI a := by
  have h0 : (a.tdiv p).natAbs ≤ a.natAbs := Int.natAbs_tdiv_le_natAbs a p
  have h1 := Int.mul_tdiv_add_tmod a p
  have h5 : (a.tmod p).natAbs ≤ a.natAbs := by
    rw [Int.natAbs_tmod]
    exact Nat.mod_le _ _
  have h6 : (0 ≤ a → 0 ≤ a.tmod p) ∧ (a ≤ 0 → a.tmod p ≤ 0) := ⟨fun h => Int.tmod_nonneg _ h, fun h => by
    have h7 := Int.tmod_nonneg (a := -a) p (by omega)
    rw [Int.neg_tmod] at h7
    omega⟩
  rw [Int.mul_comm] at h1
  unfold absI
  split <;> omega
theorem f109_at (X : Ext) (b : Nat) (hb : b ≤ 40) : ∃ p : Int, p = ((2 ^ b : Nat) : Int) ∧ p = 2 ^ b ∧ 1 ≤ p ∧ p ≤ 1099511627776 ∧ ∀ σ, CW Tryd.prog X 109 [.int .i64 b] σ fun v σ' => v = .int .i64 p ∧ σ' = σ := by
  have hp := pow_le40 hb
  exact ⟨_, rfl, by simp, by omega, by omega, fun σ => f109_ok X b hb σ⟩
theorem f108_ok (X : Ext) (a : Int) (b : Nat) (ha : -1099511627776 ≤ a ∧ a ≤ 1099511627776) (hb : b ≤ 40) (σ : Heap) : CW Tryd.prog X 108 [.int .i64 a, .int .i64 b] σ fun v σ' => v = .int .i64 (a.fdiv (2 ^ b)) ∧ σ' = σ := by
  refine cw_in Tryd.func108 rfl Tryd.ntmps108 (rs := [.tmp 4]) rfl (by kernel_rfl) (by exact Nat.le_of_ble_eq_true rfl) ?_
  obtain ⟨p, _, hpe, hp1, hp2, F⟩ := f109_at X b hb
  rw [← hpe, ← quo_down a (show (0 : Int) < p by omega)]
  have ht := tdiv_le (a := a) (show (0 : Int) < p by omega)
  have hq : p ≠ 0 := by omega
  have hab : absI a ≤ 1099511627776 := by unfold absI; split <;> omega
  simp only [go_sem, ↓reduceIte, Nat.reduceEqDiff, Nat.reduceAdd, Nat.reduceMul, Nat.reduceLT, Nat.reduceLeDiff, Int.reduceLT, Int.reduceLE, Int.reduceNeg, Int.reduceAdd, Int.reduceSub, Int.reduceMul, Int.reduceToNat, Int.reduceEq, Int.reduceNe, Int.cast_ofNat_Int, Int.natCast_one, Int.natCast_zero, Int.natCast_add, reduceCtorEq]
  refine (F _).mono ?_
  rintro _ _ ⟨rfl, rfl⟩
  have hw1 : IntKind.i64.wrap (a.tdiv p) = a.tdiv p := wrap64 (by omega)
  simp only [go_sem, ↓reduceIte, Nat.reduceEqDiff, Nat.reduceAdd, Nat.reduceMul, Nat.reduceLT, Nat.reduceLeDiff, Int.reduceLT, Int.reduceLE, Int.reduceNeg, Int.reduceAdd, Int.reduceSub, Int.reduceMul, Int.reduceToNat, Int.reduceEq, Int.reduceNe, Int.cast_ofNat_Int, Int.natCast_one, Int.natCast_zero, Int.natCast_add, reduceCtorEq, i_quo hq, hw1]
  refine (F _).mono ?_
  rintro _ _ ⟨rfl, rfl⟩
  have hw2 : IntKind.i64.wrap (a.tdiv p * p) = a.tdiv p * p := wrap64 (by omega)
  have hw3 : IntKind.i64.wrap (a.tdiv p - 1) = a.tdiv p - 1 := wrap64 (by omega)
  simp only [go_sem, ↓reduceIte, Nat.reduceEqDiff, Nat.reduceAdd, Nat.reduceMul, Nat.reduceLT, Nat.reduceLeDiff, Int.reduceLT, Int.reduceLE, Int.reduceNeg, Int.reduceAdd, Int.reduceSub, Int.reduceMul, Int.reduceToNat, Int.reduceEq, Int.reduceNe, Int.cast_ofNat_Int, Int.natCast_one, Int.natCast_zero, Int.natCast_add, reduceCtorEq, hw2]
  by_cases h : a < a.tdiv p * p
  · simp only [go_sem, ↓reduceIte, Nat.reduceEqDiff, Nat.reduceAdd, Nat.reduceMul, Nat.reduceLT, Nat.reduceLeDiff, Int.reduceLT, Int.reduceLE, Int.reduceNeg, Int.reduceAdd, Int.reduceSub, Int.reduceMul, Int.reduceToNat, Int.reduceEq, Int.reduceNe, Int.cast_ofNat_Int, Int.natCast_one, Int.natCast_zero, Int.natCast_add, reduceCtorEq, eq_true h, hw3]
  · simp only [go_sem, ↓reduceIte, Nat.reduceEqDiff, Nat.reduceAdd, Nat.reduceMul, Nat.reduceLT, Nat.reduceLeDiff, Int.reduceLT, Int.reduceLE, Int.reduceNeg, Int.reduceAdd, Int.reduceSub, Int.reduceMul, Int.reduceToNat, Int.reduceEq, Int.reduceNe, Int.cast_ofNat_Int, Int.natCast_one, Int.natCast_zero, Int.natCast_add, reduceCtorEq, eq_false h]
/-! ### bit by bit -/
def opN (kind : Int) (A B : Nat) : Nat := if kind = 12 then A &&& B else if kind = 13 then A ^^^ B else A ||| B
def opB (kind : Int) (x y : Bool) : Bool := if kind = 12 then x && y else if kind = 13 then x ^^ y else x || y
theorem opN_test (kind : Int) (A B i : Nat) : (opN kind A B).testBit i = opB kind (A.testBit i) (B.testBit i) := by
  unfold opN opB
  split
  · exact Nat.testBit_and ..
  · split
    · exact Nat.testBit_xor ..
    · exact Nat.testBit_or ..
theorem opN_lt (kind : Int) {A B : Nat} (hA : A < 2 ^ 64) (hB : B < 2 ^ 64) : opN kind A B < 2 ^ 64 := by
  unfold opN
  split
  · exact Nat.and_lt_two_pow _ hB
  · split
    · exact Nat.xor_lt_two_pow hA hB
    · exact Nat.or_lt_two_pow hA hB
theorem mod_succ_bit (C i : Nat) : C % 2 ^ (i + 1) = C % 2 ^ i + (if C.testBit i then 2 ^ i else 0) := by
  rw [Nat.mod_pow_succ, Nat.testBit_eq_decide_div_mod_eq]
  have := Nat.mod_two_eq_zero_or_one (C / 2 ^ i)
  rcases this with h | h <;> simp [h]
theorem bit_of (A i : Nat) (hA : A < 18446744073709551616) (hi : i < 64) : Go.bits .and .u64 (Int.fdiv (A : Int) (2 ^ (min i IntKind.u64.bits))) 1 = if A.testBit i then 1 else 0 := by
  have e : Int.fdiv (A : Int) (2 ^ (min i IntKind.u64.bits)) = ((A / 2 ^ i : Nat) : Int) := by
    rw [show min i IntKind.u64.bits = i from Nat.min_eq_left (by show i ≤ 64; omega), Int.fdiv_eq_ediv_of_nonneg _ (by exact Int.le_of_lt (Int.pow_pos (by omega)))]
    simp
  have h1 : A / 2 ^ i < 18446744073709551616 := Nat.lt_of_le_of_lt (Nat.div_le_self _ _) hA
  rw [e, show (1 : Int) = ((1 : Nat) : Int) from rfl, bits_and_u64_nat _ _ h1 (by omega), Nat.and_one_is_mod, Nat.testBit_eq_decide_div_mod_eq]
  rcases Nat.mod_two_eq_zero_or_one (A / 2 ^ i) with h | h <;> simp [h]
theorem bits_nat (a b : Int) : Go.bits .and .i64 a b = IntKind.i64.wrap ((opN 12 (a % 18446744073709551616).toNat (b % 18446744073709551616).toNat : Nat) : Int) ∧ Go.bits .xor .i64 a b = IntKind.i64.wrap ((opN 13 (a % 18446744073709551616).toNat (b % 18446744073709551616).toNat : Nat) : Int) ∧ Go.bits .or .i64 a b = IntKind.i64.wrap ((opN 14 (a % 18446744073709551616).toNat (b % 18446744073709551616).toNat : Nat) : Int) := by
  have h : ∀ a : Int, (BitVec.ofInt 64 a).toNat = (a % 18446744073709551616).toNat := fun a => by
    rw [BitVec.toNat_ofInt]
    rfl
  refine ⟨?_, ?_, ?_⟩
  · show IntKind.i64.wrap ((BitVec.ofInt 64 a &&& BitVec.ofInt 64 b).toNat : Int) = _
    rw [BitVec.toNat_and, h, h]; rfl
  · show IntKind.i64.wrap ((BitVec.ofInt 64 a ^^^ BitVec.ofInt 64 b).toNat : Int) = _
    rw [BitVec.toNat_xor, h, h]; rfl
  · show IntKind.i64.wrap ((BitVec.ofInt 64 a ||| BitVec.ofInt 64 b).toNat : Int) = _
    rw [BitVec.toNat_or, h, h]; rfl
set_option maxHeartbeats 2000000 in
theorem f110_ok (X : Ext) (kind a b : Int) (hk : kind = 12 ∨ kind = 13 ∨ kind = 14) (σ : Heap) : CW Tryd.prog X 110 [.int .i64 kind, .int .i64 a, .int .i64 b] σ fun v σ' => v = .int .i64 (calcOf kind a b).1 ∧ σ' = σ := by
  have hcalc : (calcOf kind a b).1 = IntKind.i64.wrap ((opN kind (a % 18446744073709551616).toNat (b % 18446744073709551616).toNat : Nat) : Int) := by
    obtain ⟨h1, h2, h3⟩ := bits_nat a b
    unfold calcOf
    rcases hk with rfl | rfl | rfl
    · simpa using h1
    · simpa using h2
    · simpa using h3
  rw [hcalc]
  have hA : (a % 18446744073709551616).toNat < 18446744073709551616 := by omega
  have hB : (b % 18446744073709551616).toNat < 18446744073709551616 := by omega
  have eA : IntKind.u64.wrap a = (((a % 18446744073709551616).toNat : Nat) : Int) := by rw [IntKind.wrap_u64]; omega
  have eB : IntKind.u64.wrap b = (((b % 18446744073709551616).toNat : Nat) : Int) := by rw [IntKind.wrap_u64]; omega
  generalize (a % 18446744073709551616).toNat = A at *
  generalize (b % 18446744073709551616).toNat = B at *
  have hC := opN_lt kind (A := A) (B := B) hA hB
  refine cw_in Tryd.func110 rfl Tryd.ntmps110 (rs := [.tmp 6]) rfl (by kernel_rfl) (by exact Nat.le_of_ble_eq_true rfl) ?_
  simp only [go_sem, ↓reduceIte, Nat.reduceEqDiff, Nat.reduceAdd, Nat.reduceMul, Nat.reduceLT, Nat.reduceLeDiff, Int.reduceLT, Int.reduceLE, Int.reduceNeg, Int.reduceAdd, Int.reduceSub, Int.reduceMul, Int.reduceToNat, Int.reduceEq, Int.reduceNe, Int.cast_ofNat_Int, Int.natCast_one, Int.natCast_zero, Int.natCast_add, reduceCtorEq]
  refine LW_run (fun k T ρ => ∃ i : Nat, i + k = 64 ∧ ρ = σ ∧ T 0 = .int .i64 kind ∧ T 1 = .int .i64 a ∧ T 2 = .int .i64 b ∧ T 7 = .int .u64 ((opN kind A B % 2 ^ i : Nat) : Int) ∧ T 8 = .int .i64 i) 64 ⟨0, by simp, rfl, rfl, rfl, rfl, by rw [Nat.pow_zero, Nat.mod_one]; rfl, rfl⟩ ?_
  rintro k T _ ⟨i, hk2, rfl, t0, t1, t2, t7, t8⟩
  simp only [go_sem, ↓reduceIte, Nat.reduceEqDiff, Nat.reduceAdd, Nat.reduceMul, Nat.reduceLT, Nat.reduceLeDiff, Int.reduceLT, Int.reduceLE, Int.reduceNeg, Int.reduceAdd, Int.reduceSub, Int.reduceMul, Int.reduceToNat, Int.reduceEq, Int.reduceNe, Int.cast_ofNat_Int, Int.natCast_one, Int.natCast_zero, Int.natCast_add, reduceCtorEq, t0, t1, t2, t7, t8]
  refine fork_dec (fun _ => ?_) (fun _ => ?_)
  · rename_i hi
    have hi64 : i < 64 := by omega
    have hw : IntKind.i64.wrap ((i : Int) + 1) = (i : Int) + 1 := wrap64 (by omega)
    have hwi : IntKind.u64.wrap (i : Int) = (i : Int) := wrapu (by omega)
    have hbA : Go.bits .and .u64 (Int.fdiv (A : Int) (2 ^ (min i 64))) 1 = if A.testBit i then 1 else 0 := bit_of A i hA hi64
    have hbB : Go.bits .and .u64 (Int.fdiv (B : Int) (2 ^ (min i 64))) 1 = if B.testBit i then 1 else 0 := bit_of B i hB hi64
    have hsucc := mod_succ_bit (opN kind A B) i
    rw [opN_test] at hsucc
    have hlt : opN kind A B % 2 ^ i < 2 ^ i := Nat.mod_lt _ (Nat.two_pow_pos i)
    have hpi : 2 ^ i ≤ 9223372036854775808 := Nat.le_trans (Nat.pow_le_pow_right (by omega) (show i ≤ 63 by omega)) (by decide)
    have hsh : IntKind.u64.wrap (1 * 2 ^ (min i 64)) = ((2 ^ i : Nat) : Int) := by
      rw [show min i 64 = i from Nat.min_eq_left (by show i ≤ 64; omega), Int.one_mul, show (2 : Int) ^ i = ((2 ^ i : Nat) : Int) by simp, wrapu (by omega)]
    have hadd : IntKind.u64.wrap (((opN kind A B % 2 ^ i : Nat) : Int) + ((2 ^ i : Nat) : Int)) = ((opN kind A B % 2 ^ i + 2 ^ i : Nat) : Int) := by rw [wrapu (by omega)]; omega
    simp only [go_sem, ↓reduceIte, Nat.reduceEqDiff, Nat.reduceAdd, Nat.reduceMul, Nat.reduceLT, Nat.reduceLeDiff, Int.reduceLT, Int.reduceLE, Int.reduceNeg, Int.reduceAdd, Int.reduceSub, Int.reduceMul, Int.reduceToNat, Int.reduceEq, Int.reduceNe, Int.cast_ofNat_Int, Int.natCast_one, Int.natCast_zero, Int.natCast_add, reduceCtorEq, t0, t1, t2, t7, t8, hi, hwi, eA, eB, i_shr (show (0 : Int) ≤ (i : Int) by omega), Int.toNat_natCast, hbA, hbB]
    cases hxa : A.testBit i <;> cases hxb : B.testBit i <;> rcases hk with rfl | rfl | rfl <;> simp only [hxa, hxb, opB] at hsucc <;> simp only [go_sem, ↓reduceIte, Nat.reduceEqDiff, Nat.reduceAdd, Nat.reduceMul, Nat.reduceLT, Nat.reduceLeDiff, Int.reduceLT, Int.reduceLE, Int.reduceNeg, Int.reduceAdd, Int.reduceSub, Int.reduceMul, Int.reduceToNat, Int.reduceEq, Int.reduceNe, Int.cast_ofNat_Int, Int.natCast_one, Int.natCast_zero, Int.natCast_add, reduceCtorEq, t0, t1, t2, t7, t8, hw, hwi, i_shl (show (0 : Int) ≤ (i : Int) by omega), Int.toNat_natCast, hsh, hadd, hxa, hxb, show IntKind.u64.wrap 0 = 0 by decide, show IntKind.u64.wrap 1 = 1 by decide, show IntKind.u64.wrap 2 = 2 by decide]
    all_goals first | (refine ⟨k - 1, by omega, i + 1, by omega, ?_⟩; simp at hsucc; rw [hsucc]; (repeat' (first | exact rfl | apply And.intro)); done) | trace_state
  · rename_i hi
    obtain rfl : i = 64 := by omega
    rw [Nat.mod_eq_of_lt hC] at t7
    simp only [go_sem, ↓reduceIte, Nat.reduceEqDiff, Nat.reduceAdd, Nat.reduceMul, Nat.reduceLT, Nat.reduceLeDiff, Int.reduceLT, Int.reduceLE, Int.reduceNeg, Int.reduceAdd, Int.reduceSub, Int.reduceMul, Int.reduceToNat, Int.reduceEq, Int.reduceNe, Int.cast_ofNat_Int, Int.natCast_one, Int.natCast_zero, Int.natCast_add, reduceCtorEq, t7]
/-! ### operations -/
/-- Two answers that are the same, or are both refused with the same code. -/
def alike (c m c0 m0 : Int) : Prop := codeOf true c m = codeOf true c0 m0 ∧ (codeOf true c m = 0 → m = m0)
theorem alike_rfl (c m : Int) : alike c m c m := ⟨rfl, fun _ => rfl⟩
theorem absI_nat (a : Int) : absI a = (a.natAbs : Int) := by unfold absI; split <;> omega
theorem over_iff {a b : Int} (hb : b ≠ 0) : (1099511627776 : Int).tdiv (absI b) < absI a ↔ 1099511627776 < (a * b).natAbs := by
  have hy : 0 < b.natAbs := by omega
  rw [absI_nat, absI_nat, Int.natAbs_mul, Int.tdiv_eq_ediv_of_nonneg (by omega), show (1099511627776 : Int) = ((1099511627776 : Nat) : Int) from rfl, ← Int.natCast_ediv, Int.ofNat_lt, Nat.div_lt_iff_lt_mul hy]
theorem mul_over {a b : Int} (ha : -1099511627776 ≤ a ∧ a ≤ 1099511627776) (hb : -1099511627776 ≤ b ∧ b ≤ 1099511627776) (h : 1099511627776 < (a * b).natAbs) : codeOf true (calcOf 7 a b).2 (calcOf 7 a b).1 = 10 := by
  have ha0 : a ≠ 0 := by rintro rfl; simp at h
  unfold calcOf
  rw [if_pos rfl]
  by_cases hq : IntKind.i64.wrap ((IntKind.i64.wrap (a * b)).tdiv a) = b
  · rw [if_neg (fun h => h.2 hq)]
    have h1 := Int.mul_tdiv_add_tmod (IntKind.i64.wrap (a * b)) a
    have h2 : ((IntKind.i64.wrap (a * b)).tmod a).natAbs < a.natAbs := by
      rw [Int.natAbs_tmod]
      exact Nat.mod_lt _ (by omega)
    have h3 : ((IntKind.i64.wrap (a * b)).tdiv a).natAbs ≤ (IntKind.i64.wrap (a * b)).natAbs := Int.natAbs_tdiv_le_natAbs _ _
    have hp := IntKind.wrap_i64 (a * b)
    generalize hpe : IntKind.i64.wrap (a * b) = p at *
    generalize hqe : p.tdiv a = q at *
    generalize p.tmod a = r at *
    rw [IntKind.wrap_i64] at hq
    have hqb : q = b := by omega
    subst hqb
    generalize a * q = P at *
    have hpP : p = P := by omega
    unfold codeOf
    rw [if_neg (by simp), if_pos ⟨rfl, by omega⟩]
  · rw [if_pos ⟨ha0, hq⟩]
    rfl
theorem mul_fits {a b : Int} (h : (a * b).natAbs ≤ 1099511627776) : calcOf 7 a b = (a * b, 0) := by
  have hw : IntKind.i64.wrap (a * b) = a * b := wrap64 (by omega)
  unfold calcOf
  rw [if_pos rfl, hw]
  by_cases ha : a = 0
  · rw [if_neg (fun h => h.1 ha)]
  · have : (a * b).tdiv a = b := Int.mul_tdiv_cancel_left b ha
    rw [this]
    have hb : b.natAbs ≤ 1099511627776 := by
      rw [Int.natAbs_mul] at h
      exact Nat.le_trans (Nat.le_mul_of_pos_left _ (by omega)) h
    rw [if_neg (fun h => h.2 (wrap64 (by omega)))]
set_option maxHeartbeats 4000000 in
theorem f88_ok (X : Ext) (kind a b : Int) (hk : 7 ≤ kind ∧ kind ≤ 14) (ha : -1099511627776 ≤ a ∧ a ≤ 1099511627776) (hb : -1099511627776 ≤ b ∧ b ≤ 1099511627776) (σ : Heap) :
    CW Tryd.prog X 88 [.int .i64 kind, .int .i64 a, .int .i64 b] σ fun v σ' => (∃ m c, v = .tuple #[.int .i64 m, .int .i64 c] ∧ alike c m (calcOf kind a b).2 (calcOf kind a b).1) ∧ σ' = σ := by
  refine cw_in Tryd.func88 rfl Tryd.ntmps88 (rs := [.tmp 6, .tmp 7]) rfl (by kernel_rfl) (by exact Nat.le_of_ble_eq_true rfl) ?_
  by_cases k7 : kind = 7
  · subst k7
    by_cases a0 : a = 0
    · have hf := mul_fits (a := a) (b := b) (by rw [a0]; simp)
      have hw : IntKind.i64.wrap (a * b) = a * b := wrap64 (by rw [a0]; simp)
      simp only [go_sem, ↓reduceIte, Nat.reduceEqDiff, Nat.reduceAdd, Nat.reduceMul, Nat.reduceLT, Nat.reduceLeDiff, Int.reduceLT, Int.reduceLE, Int.reduceNeg, Int.reduceAdd, Int.reduceSub, Int.reduceMul, Int.reduceToNat, Int.reduceEq, Int.reduceNe, Int.cast_ofNat_Int, Int.natCast_one, Int.natCast_zero, Int.natCast_add, reduceCtorEq, eq_true a0]
      rw [hf]
      subst a0
      exact ⟨_, _, rfl, by rw [hw]; exact alike_rfl _ _⟩
    by_cases b0 : b = 0
    · have hf := mul_fits (a := a) (b := b) (by rw [b0]; simp)
      have hw : IntKind.i64.wrap (a * b) = a * b := wrap64 (by rw [b0]; simp)
      simp only [go_sem, ↓reduceIte, Nat.reduceEqDiff, Nat.reduceAdd, Nat.reduceMul, Nat.reduceLT, Nat.reduceLeDiff, Int.reduceLT, Int.reduceLE, Int.reduceNeg, Int.reduceAdd, Int.reduceSub, Int.reduceMul, Int.reduceToNat, Int.reduceEq, Int.reduceNe, Int.cast_ofNat_Int, Int.natCast_one, Int.natCast_zero, Int.natCast_add, reduceCtorEq, eq_false a0, eq_true b0]
      rw [hf]
      subst b0
      exact ⟨_, _, rfl, by rw [hw]; exact alike_rfl _ _⟩
    simp only [go_sem, ↓reduceIte, Nat.reduceEqDiff, Nat.reduceAdd, Nat.reduceMul, Nat.reduceLT, Nat.reduceLeDiff, Int.reduceLT, Int.reduceLE, Int.reduceNeg, Int.reduceAdd, Int.reduceSub, Int.reduceMul, Int.reduceToNat, Int.reduceEq, Int.reduceNe, Int.cast_ofNat_Int, Int.natCast_one, Int.natCast_zero, Int.natCast_add, reduceCtorEq, eq_false a0, eq_false b0]
    refine (f22_ok X a (-1099511627776) 1099511627776 _).mono ?_
    rintro _ _ ⟨rfl, rfl⟩
    simp only [go_sem, ↓reduceIte, Nat.reduceEqDiff, Nat.reduceAdd, Nat.reduceMul, Nat.reduceLT, Nat.reduceLeDiff, Int.reduceLT, Int.reduceLE, Int.reduceNeg, Int.reduceAdd, Int.reduceSub, Int.reduceMul, Int.reduceToNat, Int.reduceEq, Int.reduceNe, Int.cast_ofNat_Int, Int.natCast_one, Int.natCast_zero, Int.natCast_add, reduceCtorEq, eq_true ha]
    refine (f22_ok X b (-1099511627776) 1099511627776 _).mono ?_
    rintro _ _ ⟨rfl, rfl⟩
    simp only [go_sem, ↓reduceIte, Nat.reduceEqDiff, Nat.reduceAdd, Nat.reduceMul, Nat.reduceLT, Nat.reduceLeDiff, Int.reduceLT, Int.reduceLE, Int.reduceNeg, Int.reduceAdd, Int.reduceSub, Int.reduceMul, Int.reduceToNat, Int.reduceEq, Int.reduceNe, Int.cast_ofNat_Int, Int.natCast_one, Int.natCast_zero, Int.natCast_add, reduceCtorEq, eq_true hb]
    refine (f107_ok X a (by omega) _).mono ?_
    rintro _ _ ⟨rfl, rfl⟩
    simp only [go_sem, ↓reduceIte, Nat.reduceEqDiff, Nat.reduceAdd, Nat.reduceMul, Nat.reduceLT, Nat.reduceLeDiff, Int.reduceLT, Int.reduceLE, Int.reduceNeg, Int.reduceAdd, Int.reduceSub, Int.reduceMul, Int.reduceToNat, Int.reduceEq, Int.reduceNe, Int.cast_ofNat_Int, Int.natCast_one, Int.natCast_zero, Int.natCast_add, reduceCtorEq]
    refine (f107_ok X b (by omega) _).mono ?_
    rintro _ _ ⟨rfl, rfl⟩
    have hab : absI b ≠ 0 := by rw [absI_nat]; omega
    have hq : IntKind.i64.wrap ((1099511627776 : Int).tdiv (absI b)) = (1099511627776 : Int).tdiv (absI b) := by
      have h1 := tdiv_le (a := 1099511627776) (p := absI b) (by rw [absI_nat]; omega)
      have h2 : absI 1099511627776 = 1099511627776 := rfl
      exact wrap64 (by omega)
    simp only [go_sem, ↓reduceIte, Nat.reduceEqDiff, Nat.reduceAdd, Nat.reduceMul, Nat.reduceLT, Nat.reduceLeDiff, Int.reduceLT, Int.reduceLE, Int.reduceNeg, Int.reduceAdd, Int.reduceSub, Int.reduceMul, Int.reduceToNat, Int.reduceEq, Int.reduceNe, Int.cast_ofNat_Int, Int.natCast_one, Int.natCast_zero, Int.natCast_add, reduceCtorEq, i_quo hab, hq]
    have hov := over_iff (a := a) b0
    by_cases h : (1099511627776 : Int).tdiv (absI b) < absI a
    · simp only [go_sem, ↓reduceIte, Nat.reduceEqDiff, Nat.reduceAdd, Nat.reduceMul, Nat.reduceLT, Nat.reduceLeDiff, Int.reduceLT, Int.reduceLE, Int.reduceNeg, Int.reduceAdd, Int.reduceSub, Int.reduceMul, Int.reduceToNat, Int.reduceEq, Int.reduceNe, Int.cast_ofNat_Int, Int.natCast_one, Int.natCast_zero, Int.natCast_add, reduceCtorEq, eq_true h]
      have hc := mul_over ha hb (hov.1 h)
      exact ⟨_, _, rfl, by rw [hc]; rfl, fun h => by simp [codeOf] at h⟩
    · simp only [go_sem, ↓reduceIte, Nat.reduceEqDiff, Nat.reduceAdd, Nat.reduceMul, Nat.reduceLT, Nat.reduceLeDiff, Int.reduceLT, Int.reduceLE, Int.reduceNeg, Int.reduceAdd, Int.reduceSub, Int.reduceMul, Int.reduceToNat, Int.reduceEq, Int.reduceNe, Int.cast_ofNat_Int, Int.natCast_one, Int.natCast_zero, Int.natCast_add, reduceCtorEq, eq_false h]
      have hn : (a * b).natAbs ≤ 1099511627776 := by
        rcases Nat.lt_or_ge 1099511627776 (a * b).natAbs with h' | h'
        · exact absurd (hov.2 h') h
        · exact h'
      have hw : IntKind.i64.wrap (a * b) = a * b := wrap64 (by omega)
      rw [mul_fits hn, hw]
      exact ⟨_, _, rfl, alike_rfl _ _⟩
  by_cases k8 : kind = 8
  · subst k8
    have e : calcOf 8 a b = if b = 0 then (0, 3) else (IntKind.i64.wrap (a.tdiv b), 0) := by simp [calcOf]
    rw [e]
    by_cases b0 : b = 0
    · simp only [go_sem, ↓reduceIte, Nat.reduceEqDiff, Nat.reduceAdd, Nat.reduceMul, Nat.reduceLT, Nat.reduceLeDiff, Int.reduceLT, Int.reduceLE, Int.reduceNeg, Int.reduceAdd, Int.reduceSub, Int.reduceMul, Int.reduceToNat, Int.reduceEq, Int.reduceNe, Int.cast_ofNat_Int, Int.natCast_one, Int.natCast_zero, Int.natCast_add, reduceCtorEq, eq_true b0]
      exact ⟨_, _, rfl, alike_rfl _ _⟩
    · simp only [go_sem, ↓reduceIte, Nat.reduceEqDiff, Nat.reduceAdd, Nat.reduceMul, Nat.reduceLT, Nat.reduceLeDiff, Int.reduceLT, Int.reduceLE, Int.reduceNeg, Int.reduceAdd, Int.reduceSub, Int.reduceMul, Int.reduceToNat, Int.reduceEq, Int.reduceNe, Int.cast_ofNat_Int, Int.natCast_one, Int.natCast_zero, Int.natCast_add, reduceCtorEq, eq_false b0, i_quo b0]
      exact ⟨_, _, rfl, alike_rfl _ _⟩
  by_cases k9 : kind = 9
  · subst k9
    have e : calcOf 9 a b = if b = 0 then (0, 3) else (a.tmod b, 0) := by simp [calcOf]
    rw [e]
    by_cases b0 : b = 0
    · simp only [go_sem, ↓reduceIte, Nat.reduceEqDiff, Nat.reduceAdd, Nat.reduceMul, Nat.reduceLT, Nat.reduceLeDiff, Int.reduceLT, Int.reduceLE, Int.reduceNeg, Int.reduceAdd, Int.reduceSub, Int.reduceMul, Int.reduceToNat, Int.reduceEq, Int.reduceNe, Int.cast_ofNat_Int, Int.natCast_one, Int.natCast_zero, Int.natCast_add, reduceCtorEq, eq_true b0]
      exact ⟨_, _, rfl, alike_rfl _ _⟩
    · have h1 := Int.mul_tdiv_add_tmod a b
      have h2 : (a.tmod b).natAbs ≤ a.natAbs := by rw [Int.natAbs_tmod]; exact Nat.mod_le _ _
      have h3 : (a.tdiv b).natAbs ≤ a.natAbs := Int.natAbs_tdiv_le_natAbs _ _
      rw [Int.mul_comm] at h1
      have hw1 : IntKind.i64.wrap (a.tdiv b) = a.tdiv b := wrap64 (by omega)
      have hw2 : IntKind.i64.wrap (a.tdiv b * b) = a.tdiv b * b := wrap64 (by omega)
      have hw3 : IntKind.i64.wrap (a - a.tdiv b * b) = a.tmod b := by rw [wrap64 (by omega)]; omega
      simp only [go_sem, ↓reduceIte, Nat.reduceEqDiff, Nat.reduceAdd, Nat.reduceMul, Nat.reduceLT, Nat.reduceLeDiff, Int.reduceLT, Int.reduceLE, Int.reduceNeg, Int.reduceAdd, Int.reduceSub, Int.reduceMul, Int.reduceToNat, Int.reduceEq, Int.reduceNe, Int.cast_ofNat_Int, Int.natCast_one, Int.natCast_zero, Int.natCast_add, reduceCtorEq, eq_false b0, i_quo b0, hw1, hw2, hw3]
      exact ⟨_, _, rfl, alike_rfl _ _⟩
  by_cases k10 : kind = 10 ∨ kind = 11
  · have e : calcOf kind a b = if b < 0 ∨ 40 < b then (0, 3) else if kind = 11 then (a.fdiv (2 ^ (min b.toNat 64)), 0)
      else if (1099511627776 : Int).fdiv (2 ^ (min b.toNat 64)) < a ∨ a < IntKind.i64.wrap (0 - (1099511627776 : Int).fdiv (2 ^ (min b.toNat 64))) then (0, 10) else (IntKind.i64.wrap (a * 2 ^ (min b.toNat 64)), 0) := by
      rw [calcOf, if_neg k7, if_neg (by omega), if_pos k10]
    rw [e]
    by_cases hr : 0 ≤ b ∧ b ≤ 40
    case neg =>
      rw [if_pos (by omega)]
      rcases k10 with h | h
      · simp only [go_sem, ↓reduceIte, Nat.reduceEqDiff, Nat.reduceAdd, Nat.reduceMul, Nat.reduceLT, Nat.reduceLeDiff, Int.reduceLT, Int.reduceLE, Int.reduceNeg, Int.reduceAdd, Int.reduceSub, Int.reduceMul, Int.reduceToNat, Int.reduceEq, Int.reduceNe, Int.cast_ofNat_Int, Int.natCast_one, Int.natCast_zero, Int.natCast_add, reduceCtorEq, h]
        refine (f22_ok X b 0 40 _).mono ?_
        rintro _ _ ⟨rfl, rfl⟩
        simp only [go_sem, ↓reduceIte, Nat.reduceEqDiff, Nat.reduceAdd, Nat.reduceMul, Nat.reduceLT, Nat.reduceLeDiff, Int.reduceLT, Int.reduceLE, Int.reduceNeg, Int.reduceAdd, Int.reduceSub, Int.reduceMul, Int.reduceToNat, Int.reduceEq, Int.reduceNe, Int.cast_ofNat_Int, Int.natCast_one, Int.natCast_zero, Int.natCast_add, reduceCtorEq, eq_false hr]
        exact ⟨_, _, rfl, alike_rfl _ _⟩
      · simp only [go_sem, ↓reduceIte, Nat.reduceEqDiff, Nat.reduceAdd, Nat.reduceMul, Nat.reduceLT, Nat.reduceLeDiff, Int.reduceLT, Int.reduceLE, Int.reduceNeg, Int.reduceAdd, Int.reduceSub, Int.reduceMul, Int.reduceToNat, Int.reduceEq, Int.reduceNe, Int.cast_ofNat_Int, Int.natCast_one, Int.natCast_zero, Int.natCast_add, reduceCtorEq, h]
        refine (f22_ok X b 0 40 _).mono ?_
        rintro _ _ ⟨rfl, rfl⟩
        simp only [go_sem, ↓reduceIte, Nat.reduceEqDiff, Nat.reduceAdd, Nat.reduceMul, Nat.reduceLT, Nat.reduceLeDiff, Int.reduceLT, Int.reduceLE, Int.reduceNeg, Int.reduceAdd, Int.reduceSub, Int.reduceMul, Int.reduceToNat, Int.reduceEq, Int.reduceNe, Int.cast_ofNat_Int, Int.natCast_one, Int.natCast_zero, Int.natCast_add, reduceCtorEq, eq_false hr]
        exact ⟨_, _, rfl, alike_rfl _ _⟩
    rw [if_neg (by omega)]
    obtain ⟨n, rfl⟩ := Int.eq_ofNat_of_zero_le hr.1
    have hn : n ≤ 40 := by omega
    rw [Int.toNat_natCast, Nat.min_eq_left (show n ≤ 64 by omega)]
    rcases k10 with h | h
    · rw [if_neg (by omega)]
      simp only [go_sem, ↓reduceIte, Nat.reduceEqDiff, Nat.reduceAdd, Nat.reduceMul, Nat.reduceLT, Nat.reduceLeDiff, Int.reduceLT, Int.reduceLE, Int.reduceNeg, Int.reduceAdd, Int.reduceSub, Int.reduceMul, Int.reduceToNat, Int.reduceEq, Int.reduceNe, Int.cast_ofNat_Int, Int.natCast_one, Int.natCast_zero, Int.natCast_add, reduceCtorEq, h]
      refine (f22_ok X n 0 40 _).mono ?_
      rintro _ _ ⟨rfl, rfl⟩
      simp only [go_sem, ↓reduceIte, Nat.reduceEqDiff, Nat.reduceAdd, Nat.reduceMul, Nat.reduceLT, Nat.reduceLeDiff, Int.reduceLT, Int.reduceLE, Int.reduceNeg, Int.reduceAdd, Int.reduceSub, Int.reduceMul, Int.reduceToNat, Int.reduceEq, Int.reduceNe, Int.cast_ofNat_Int, Int.natCast_one, Int.natCast_zero, Int.natCast_add, reduceCtorEq, eq_true hr.2, h]
      refine (f107_ok X a (by omega) _).mono ?_
      rintro _ _ ⟨rfl, rfl⟩
      obtain ⟨p, _, hpe, hp1, hp2, F⟩ := f109_at X n hn
      rw [← hpe, Int.fdiv_eq_ediv_of_nonneg _ (by omega), ← Int.tdiv_eq_ediv_of_nonneg (by omega)]
      have ht := tdiv_le (a := 1099511627776) (show (0 : Int) < p by omega)
      have hab : absI 1099511627776 = 1099511627776 := rfl
      have hd0 : 0 ≤ (1099511627776 : Int).tdiv p := Int.tdiv_nonneg (by omega) (by omega)
      have hp0 : p ≠ 0 := by omega
      simp only [go_sem, ↓reduceIte, Nat.reduceEqDiff, Nat.reduceAdd, Nat.reduceMul, Nat.reduceLT, Nat.reduceLeDiff, Int.reduceLT, Int.reduceLE, Int.reduceNeg, Int.reduceAdd, Int.reduceSub, Int.reduceMul, Int.reduceToNat, Int.reduceEq, Int.reduceNe, Int.cast_ofNat_Int, Int.natCast_one, Int.natCast_zero, Int.natCast_add, reduceCtorEq]
      refine (F _).mono ?_
      rintro _ _ ⟨rfl, rfl⟩
      have hw1 : IntKind.i64.wrap ((1099511627776 : Int).tdiv p) = (1099511627776 : Int).tdiv p := wrap64 (by omega)
      have hw2 : IntKind.i64.wrap (0 - (1099511627776 : Int).tdiv p) = -(1099511627776 : Int).tdiv p := by rw [wrap64 (by omega)]; omega
      rw [hw2]
      simp only [go_sem, ↓reduceIte, Nat.reduceEqDiff, Nat.reduceAdd, Nat.reduceMul, Nat.reduceLT, Nat.reduceLeDiff, Int.reduceLT, Int.reduceLE, Int.reduceNeg, Int.reduceAdd, Int.reduceSub, Int.reduceMul, Int.reduceToNat, Int.reduceEq, Int.reduceNe, Int.cast_ofNat_Int, Int.natCast_one, Int.natCast_zero, Int.natCast_add, reduceCtorEq, i_quo hp0, hw1]
      by_cases hd : (1099511627776 : Int).tdiv p < absI a
      · simp only [go_sem, ↓reduceIte, Nat.reduceEqDiff, Nat.reduceAdd, Nat.reduceMul, Nat.reduceLT, Nat.reduceLeDiff, Int.reduceLT, Int.reduceLE, Int.reduceNeg, Int.reduceAdd, Int.reduceSub, Int.reduceMul, Int.reduceToNat, Int.reduceEq, Int.reduceNe, Int.cast_ofNat_Int, Int.natCast_one, Int.natCast_zero, Int.natCast_add, reduceCtorEq, eq_true hd]
        rw [if_pos (by unfold absI at hd; split at hd <;> omega)]
        exact ⟨_, _, rfl, alike_rfl _ _⟩
      · simp only [go_sem, ↓reduceIte, Nat.reduceEqDiff, Nat.reduceAdd, Nat.reduceMul, Nat.reduceLT, Nat.reduceLeDiff, Int.reduceLT, Int.reduceLE, Int.reduceNeg, Int.reduceAdd, Int.reduceSub, Int.reduceMul, Int.reduceToNat, Int.reduceEq, Int.reduceNe, Int.cast_ofNat_Int, Int.natCast_one, Int.natCast_zero, Int.natCast_add, reduceCtorEq, eq_false hd]
        refine (F _).mono ?_
        rintro _ _ ⟨rfl, rfl⟩
        simp only [go_sem, ↓reduceIte, Nat.reduceEqDiff, Nat.reduceAdd, Nat.reduceMul, Nat.reduceLT, Nat.reduceLeDiff, Int.reduceLT, Int.reduceLE, Int.reduceNeg, Int.reduceAdd, Int.reduceSub, Int.reduceMul, Int.reduceToNat, Int.reduceEq, Int.reduceNe, Int.cast_ofNat_Int, Int.natCast_one, Int.natCast_zero, Int.natCast_add, reduceCtorEq]
        rw [if_neg (by unfold absI at hd; split at hd <;> omega)]
        exact ⟨_, _, rfl, alike_rfl _ _⟩
    · rw [if_pos h]
      simp only [go_sem, ↓reduceIte, Nat.reduceEqDiff, Nat.reduceAdd, Nat.reduceMul, Nat.reduceLT, Nat.reduceLeDiff, Int.reduceLT, Int.reduceLE, Int.reduceNeg, Int.reduceAdd, Int.reduceSub, Int.reduceMul, Int.reduceToNat, Int.reduceEq, Int.reduceNe, Int.cast_ofNat_Int, Int.natCast_one, Int.natCast_zero, Int.natCast_add, reduceCtorEq, h]
      refine (f22_ok X n 0 40 _).mono ?_
      rintro _ _ ⟨rfl, rfl⟩
      simp only [go_sem, ↓reduceIte, Nat.reduceEqDiff, Nat.reduceAdd, Nat.reduceMul, Nat.reduceLT, Nat.reduceLeDiff, Int.reduceLT, Int.reduceLE, Int.reduceNeg, Int.reduceAdd, Int.reduceSub, Int.reduceMul, Int.reduceToNat, Int.reduceEq, Int.reduceNe, Int.cast_ofNat_Int, Int.natCast_one, Int.natCast_zero, Int.natCast_add, reduceCtorEq, eq_true hr.2, h]
      refine (f108_ok X a n ha hn _).mono ?_
      rintro _ _ ⟨rfl, rfl⟩
      simp only [go_sem, ↓reduceIte, Nat.reduceEqDiff, Nat.reduceAdd, Nat.reduceMul, Nat.reduceLT, Nat.reduceLeDiff, Int.reduceLT, Int.reduceLE, Int.reduceNeg, Int.reduceAdd, Int.reduceSub, Int.reduceMul, Int.reduceToNat, Int.reduceEq, Int.reduceNe, Int.cast_ofNat_Int, Int.natCast_one, Int.natCast_zero, Int.natCast_add, reduceCtorEq]
      exact ⟨_, _, rfl, alike_rfl _ _⟩
  · have h10 : ¬ kind = 10 := fun h => k10 (.inl h)
    have h11 : ¬ kind = 11 := fun h => k10 (.inr h)
    have e2 : (calcOf kind a b).2 = 0 := by
      rw [calcOf, if_neg k7, if_neg (by omega), if_neg k10]
      split
      · rfl
      · split <;> rfl
    simp only [go_sem, ↓reduceIte, Nat.reduceEqDiff, Nat.reduceAdd, Nat.reduceMul, Nat.reduceLT, Nat.reduceLeDiff, Int.reduceLT, Int.reduceLE, Int.reduceNeg, Int.reduceAdd, Int.reduceSub, Int.reduceMul, Int.reduceToNat, Int.reduceEq, Int.reduceNe, Int.cast_ofNat_Int, Int.natCast_one, Int.natCast_zero, Int.natCast_add, reduceCtorEq, eq_false k7, eq_false k8, eq_false k9, eq_false h10, eq_false h11]
    refine (f110_ok X kind a b (by omega) _).mono ?_
    rintro _ _ ⟨rfl, rfl⟩
    simp only [go_sem, ↓reduceIte, Nat.reduceEqDiff, Nat.reduceAdd, Nat.reduceMul, Nat.reduceLT, Nat.reduceLeDiff, Int.reduceLT, Int.reduceLE, Int.reduceNeg, Int.reduceAdd, Int.reduceSub, Int.reduceMul, Int.reduceToNat, Int.reduceEq, Int.reduceNe, Int.cast_ofNat_Int, Int.natCast_one, Int.natCast_zero, Int.natCast_add, reduceCtorEq]
    rw [e2]
    exact ⟨_, _, rfl, alike_rfl _ _⟩
end Go.Proofs.YtkgdkommahgakaaDoor.Abs

/- The plain law of sums: multiplicities of symbols, and at most one of each sign. -/
namespace Go.Proofs.YtkgdkommahgakaaDoor.Abs
open Go Go.RowKit Gram
set_option linter.unusedVariables false
set_option linter.unusedSimpArgs false
set_option maxRecDepth 100000

abbrev Ml := List (List UInt8 × Int)
def updM (name : List UInt8) (t : Int) (x : List UInt8 × Int) : List UInt8 × Int := (x.1, if x.1 = name then x.2 + t else x.2)
def withL (l : Ml) (name : List UInt8) (t : Int) : Ml := ((l.map (updM name t)).filter fun x => decide (x.2 ≠ 0)) ++ (if name ∉ l.map (·.1) ∧ name ≠ [] then [(name, t)] else [])
def linGo : Ml → List UInt8 → List UInt8 → Option (List UInt8 × List UInt8)
  | [], s, m => some (s, m)
  | x :: l, s, m => if x.2 = 1 ∧ s = [] then linGo l x.1 m else if x.2 = -1 ∧ m = [] then linGo l s x.1 else none
def plusL (a b : Lin) (s : Int) : Option Lin := (linGo (withL (withL (withL (withL [] a.sym 1) a.minus (-1)) b.sym s) b.minus (-s)) [] []).map fun r => ⟨r.1, r.2, a.num + s * b.num⟩
set_option maxHeartbeats 8000000 in
theorem plus_one {a b : Lin} (ha : a.good) (hb : b.good) : plusL a b 1 = addL a b 1 := by
  obtain ⟨p, m, x⟩ := a
  obtain ⟨q, r, y⟩ := b
  unfold Lin.good at ha hb
  simp only at ha hb
  unfold plusL addL turn sumL
  by_cases hp : p = []
  · subst hp
    by_cases hm : m = []
    · subst hm
      by_cases hq : q = []
      · subst hq
        by_cases hr : r = []
        · subst hr
          simp [withL, linGo, cancel, updM, turn]
        · skip
          simp [withL, linGo, cancel, updM, turn, hr]
      · skip
        by_cases hr : r = []
        · subst hr
          simp [withL, linGo, cancel, updM, turn, hq]
        · skip
          have nqr : ¬ q = r := fun h => hq (hb h)
          simp [withL, linGo, cancel, updM, turn, hq, hr, nqr, Ne.symm nqr]
    · skip
      by_cases hq : q = []
      · subst hq
        by_cases hr : r = []
        · subst hr
          simp [withL, linGo, cancel, updM, turn, hm]
        · skip
          by_cases emr : m = r
          · subst emr
            simp [withL, linGo, cancel, updM, turn, hm]
          · skip
            simp [withL, linGo, cancel, updM, turn, hm, hr, emr, Ne.symm emr]
      · skip
        by_cases hr : r = []
        · subst hr
          by_cases emq : m = q
          · subst emq
            simp [withL, linGo, cancel, updM, turn, hm]
          · skip
            simp [withL, linGo, cancel, updM, turn, hm, hq, emq, Ne.symm emq]
        · skip
          have nqr : ¬ q = r := fun h => hq (hb h)
          by_cases emq : m = q
          · subst emq
            simp [withL, linGo, cancel, updM, turn, hm, hr, nqr, Ne.symm nqr]
          · skip
            by_cases emr : m = r
            · subst emr
              simp [withL, linGo, cancel, updM, turn, hm, hq, nqr, Ne.symm nqr, emq, Ne.symm emq]
            · skip
              simp [withL, linGo, cancel, updM, turn, hm, hq, hr, nqr, Ne.symm nqr, emq, Ne.symm emq, emr, Ne.symm emr]
  · skip
    by_cases hm : m = []
    · subst hm
      by_cases hq : q = []
      · subst hq
        by_cases hr : r = []
        · subst hr
          simp [withL, linGo, cancel, updM, turn, hp]
        · skip
          by_cases epr : p = r
          · subst epr
            simp [withL, linGo, cancel, updM, turn, hp]
          · skip
            simp [withL, linGo, cancel, updM, turn, hp, hr, epr, Ne.symm epr]
      · skip
        by_cases hr : r = []
        · subst hr
          by_cases epq : p = q
          · subst epq
            simp [withL, linGo, cancel, updM, turn, hp]
          · skip
            simp [withL, linGo, cancel, updM, turn, hp, hq, epq, Ne.symm epq]
        · skip
          have nqr : ¬ q = r := fun h => hq (hb h)
          by_cases epq : p = q
          · subst epq
            simp [withL, linGo, cancel, updM, turn, hp, hr, nqr, Ne.symm nqr]
          · skip
            by_cases epr : p = r
            · subst epr
              simp [withL, linGo, cancel, updM, turn, hp, hq, nqr, Ne.symm nqr, epq, Ne.symm epq]
            · skip
              simp [withL, linGo, cancel, updM, turn, hp, hq, hr, nqr, Ne.symm nqr, epq, Ne.symm epq, epr, Ne.symm epr]
    · skip
      by_cases hq : q = []
      · subst hq
        by_cases hr : r = []
        · subst hr
          have npm : ¬ p = m := fun h => hp (ha h)
          simp [withL, linGo, cancel, updM, turn, hp, hm, npm, Ne.symm npm]
        · skip
          have npm : ¬ p = m := fun h => hp (ha h)
          by_cases epr : p = r
          · subst epr
            simp [withL, linGo, cancel, updM, turn, hp, hm, npm, Ne.symm npm]
          · skip
            by_cases emr : m = r
            · subst emr
              simp [withL, linGo, cancel, updM, turn, hp, hm, npm, Ne.symm npm, epr, Ne.symm epr]
            · skip
              simp [withL, linGo, cancel, updM, turn, hp, hm, hr, npm, Ne.symm npm, epr, Ne.symm epr, emr, Ne.symm emr]
      · skip
        by_cases hr : r = []
        · subst hr
          have npm : ¬ p = m := fun h => hp (ha h)
          by_cases epq : p = q
          · subst epq
            simp [withL, linGo, cancel, updM, turn, hp, hm, npm, Ne.symm npm]
          · skip
            by_cases emq : m = q
            · subst emq
              simp [withL, linGo, cancel, updM, turn, hp, hm, npm, Ne.symm npm, epq, Ne.symm epq]
            · skip
              simp [withL, linGo, cancel, updM, turn, hp, hm, hq, npm, Ne.symm npm, epq, Ne.symm epq, emq, Ne.symm emq]
        · skip
          have npm : ¬ p = m := fun h => hp (ha h)
          have nqr : ¬ q = r := fun h => hq (hb h)
          by_cases epq : p = q
          · subst epq
            by_cases emr : m = r
            · subst emr
              simp [withL, linGo, cancel, updM, turn, hp, hm, npm, Ne.symm npm, nqr, Ne.symm nqr]
            · skip
              simp [withL, linGo, cancel, updM, turn, hp, hm, hr, npm, Ne.symm npm, nqr, Ne.symm nqr, emr, Ne.symm emr]
          · skip
            by_cases epr : p = r
            · subst epr
              by_cases emq : m = q
              · subst emq
                simp [withL, linGo, cancel, updM, turn, hp, hm, npm, Ne.symm npm, nqr, Ne.symm nqr, epq, Ne.symm epq]
              · skip
                simp [withL, linGo, cancel, updM, turn, hp, hm, hq, npm, Ne.symm npm, nqr, Ne.symm nqr, epq, Ne.symm epq, emq, Ne.symm emq]
            · skip
              by_cases emq : m = q
              · subst emq
                simp [withL, linGo, cancel, updM, turn, hp, hm, hr, npm, Ne.symm npm, nqr, Ne.symm nqr, epq, Ne.symm epq, epr, Ne.symm epr]
              · skip
                by_cases emr : m = r
                · subst emr
                  simp [withL, linGo, cancel, updM, turn, hp, hm, hq, npm, Ne.symm npm, nqr, Ne.symm nqr, epq, Ne.symm epq, epr, Ne.symm epr, emq, Ne.symm emq]
                · skip
                  simp [withL, linGo, cancel, updM, turn, hp, hm, hq, hr, npm, Ne.symm npm, nqr, Ne.symm nqr, epq, Ne.symm epq, epr, Ne.symm epr, emq, Ne.symm emq, emr, Ne.symm emr]
set_option maxHeartbeats 8000000 in
theorem plus_neg {a b : Lin} (ha : a.good) (hb : b.good) : plusL a b (-1) = addL a b (-1) := by
  obtain ⟨p, m, x⟩ := a
  obtain ⟨q, r, y⟩ := b
  unfold Lin.good at ha hb
  simp only at ha hb
  unfold plusL addL turn sumL
  by_cases hp : p = []
  · subst hp
    by_cases hm : m = []
    · subst hm
      by_cases hq : q = []
      · subst hq
        by_cases hr : r = []
        · subst hr
          simp [withL, linGo, cancel, updM, turn]
        · skip
          simp [withL, linGo, cancel, updM, turn, hr]
      · skip
        by_cases hr : r = []
        · subst hr
          simp [withL, linGo, cancel, updM, turn, hq]
        · skip
          have nqr : ¬ q = r := fun h => hq (hb h)
          simp [withL, linGo, cancel, updM, turn, hq, hr, nqr, Ne.symm nqr]
    · skip
      by_cases hq : q = []
      · subst hq
        by_cases hr : r = []
        · subst hr
          simp [withL, linGo, cancel, updM, turn, hm]
        · skip
          by_cases emr : m = r
          · subst emr
            simp [withL, linGo, cancel, updM, turn, hm]
          · skip
            simp [withL, linGo, cancel, updM, turn, hm, hr, emr, Ne.symm emr]
      · skip
        by_cases hr : r = []
        · subst hr
          by_cases emq : m = q
          · subst emq
            simp [withL, linGo, cancel, updM, turn, hm]
          · skip
            simp [withL, linGo, cancel, updM, turn, hm, hq, emq, Ne.symm emq]
        · skip
          have nqr : ¬ q = r := fun h => hq (hb h)
          by_cases emq : m = q
          · subst emq
            simp [withL, linGo, cancel, updM, turn, hm, hr, nqr, Ne.symm nqr]
          · skip
            by_cases emr : m = r
            · subst emr
              simp [withL, linGo, cancel, updM, turn, hm, hq, nqr, Ne.symm nqr, emq, Ne.symm emq]
            · skip
              simp [withL, linGo, cancel, updM, turn, hm, hq, hr, nqr, Ne.symm nqr, emq, Ne.symm emq, emr, Ne.symm emr]
  · skip
    by_cases hm : m = []
    · subst hm
      by_cases hq : q = []
      · subst hq
        by_cases hr : r = []
        · subst hr
          simp [withL, linGo, cancel, updM, turn, hp]
        · skip
          by_cases epr : p = r
          · subst epr
            simp [withL, linGo, cancel, updM, turn, hp]
          · skip
            simp [withL, linGo, cancel, updM, turn, hp, hr, epr, Ne.symm epr]
      · skip
        by_cases hr : r = []
        · subst hr
          by_cases epq : p = q
          · subst epq
            simp [withL, linGo, cancel, updM, turn, hp]
          · skip
            simp [withL, linGo, cancel, updM, turn, hp, hq, epq, Ne.symm epq]
        · skip
          have nqr : ¬ q = r := fun h => hq (hb h)
          by_cases epq : p = q
          · subst epq
            simp [withL, linGo, cancel, updM, turn, hp, hr, nqr, Ne.symm nqr]
          · skip
            by_cases epr : p = r
            · subst epr
              simp [withL, linGo, cancel, updM, turn, hp, hq, nqr, Ne.symm nqr, epq, Ne.symm epq]
            · skip
              simp [withL, linGo, cancel, updM, turn, hp, hq, hr, nqr, Ne.symm nqr, epq, Ne.symm epq, epr, Ne.symm epr]
    · skip
      by_cases hq : q = []
      · subst hq
        by_cases hr : r = []
        · subst hr
          have npm : ¬ p = m := fun h => hp (ha h)
          simp [withL, linGo, cancel, updM, turn, hp, hm, npm, Ne.symm npm]
        · skip
          have npm : ¬ p = m := fun h => hp (ha h)
          by_cases epr : p = r
          · subst epr
            simp [withL, linGo, cancel, updM, turn, hp, hm, npm, Ne.symm npm]
          · skip
            by_cases emr : m = r
            · subst emr
              simp [withL, linGo, cancel, updM, turn, hp, hm, npm, Ne.symm npm, epr, Ne.symm epr]
            · skip
              simp [withL, linGo, cancel, updM, turn, hp, hm, hr, npm, Ne.symm npm, epr, Ne.symm epr, emr, Ne.symm emr]
      · skip
        by_cases hr : r = []
        · subst hr
          have npm : ¬ p = m := fun h => hp (ha h)
          by_cases epq : p = q
          · subst epq
            simp [withL, linGo, cancel, updM, turn, hp, hm, npm, Ne.symm npm]
          · skip
            by_cases emq : m = q
            · subst emq
              simp [withL, linGo, cancel, updM, turn, hp, hm, npm, Ne.symm npm, epq, Ne.symm epq]
            · skip
              simp [withL, linGo, cancel, updM, turn, hp, hm, hq, npm, Ne.symm npm, epq, Ne.symm epq, emq, Ne.symm emq]
        · skip
          have npm : ¬ p = m := fun h => hp (ha h)
          have nqr : ¬ q = r := fun h => hq (hb h)
          by_cases epq : p = q
          · subst epq
            by_cases emr : m = r
            · subst emr
              simp [withL, linGo, cancel, updM, turn, hp, hm, npm, Ne.symm npm, nqr, Ne.symm nqr]
            · skip
              simp [withL, linGo, cancel, updM, turn, hp, hm, hr, npm, Ne.symm npm, nqr, Ne.symm nqr, emr, Ne.symm emr]
          · skip
            by_cases epr : p = r
            · subst epr
              by_cases emq : m = q
              · subst emq
                simp [withL, linGo, cancel, updM, turn, hp, hm, npm, Ne.symm npm, nqr, Ne.symm nqr, epq, Ne.symm epq]
              · skip
                simp [withL, linGo, cancel, updM, turn, hp, hm, hq, npm, Ne.symm npm, nqr, Ne.symm nqr, epq, Ne.symm epq, emq, Ne.symm emq]
            · skip
              by_cases emq : m = q
              · subst emq
                simp [withL, linGo, cancel, updM, turn, hp, hm, hr, npm, Ne.symm npm, nqr, Ne.symm nqr, epq, Ne.symm epq, epr, Ne.symm epr]
              · skip
                by_cases emr : m = r
                · subst emr
                  simp [withL, linGo, cancel, updM, turn, hp, hm, hq, npm, Ne.symm npm, nqr, Ne.symm nqr, epq, Ne.symm epq, epr, Ne.symm epr, emq, Ne.symm emq]
                · skip
                  simp [withL, linGo, cancel, updM, turn, hp, hm, hq, hr, npm, Ne.symm npm, nqr, Ne.symm nqr, epq, Ne.symm epq, epr, Ne.symm epr, emq, Ne.symm emq, emr, Ne.symm emr]
end Go.Proofs.YtkgdkommahgakaaDoor.Abs

/- The reference's sums of linear values (f105 with, f106 linear, f87 plus). -/
namespace Go.Proofs.YtkgdkommahgakaaDoor.Abs
open Go Go.RowKit Gram
set_option linter.unusedVariables false
set_option linter.unusedSimpArgs false
set_option maxRecDepth 100000

/-- A slice of values of one cell: none, or a block of its own. -/
def SL (b : Nat) (σ : Heap) (cells : List Value) (v : Value) : Prop := (cells = [] ∧ v = .slice none 0 0) ∨ ∃ q c, v = .slice (some ⟨q, 0, none⟩) cells.length (c + 1) ∧ b ≤ q ∧ cells ≠ [] ∧ look σ q = some ⟨cells, true, 1⟩
theorem SL.mono {b : Nat} {σ σ' : Heap} {cells : List Value} {v : Value} (h : SL b σ cells v) (hp : σ <+: σ') : SL b σ' cells v := by
  rcases h with h | ⟨q, c, h1, h2, h4, h3⟩
  · exact .inl h
  · exact .inr ⟨q, c, h1, h2, h4, look_prefix hp h3⟩
theorem SL.lower {b b' : Nat} {σ : Heap} {cells : List Value} {v : Value} (h : SL b σ cells v) (hb : b' ≤ b) : SL b' σ cells v := by
  rcases h with h | ⟨q, c, h1, h2, h4, h3⟩
  · exact .inl h
  · exact .inr ⟨q, c, h1, by omega, h4, h3⟩
theorem SL.set {b p : Nat} {σ : Heap} {cells : List Value} {v : Value} {x : Option Blk} (h : SL b σ cells v) (hp : p < b) : SL b (σ.set p x) cells v := by
  rcases h with h | ⟨q, c, h1, h2, h4, h3⟩
  · exact .inl h
  · exact .inr ⟨q, c, h1, h2, h4, (look_set_ne (by omega)).trans h3⟩
theorem SL.slice {b : Nat} {σ : Heap} {cells : List Value} {v : Value} (h : SL b σ cells v) : ∃ a l c, v = .slice a l c := by
  rcases h with ⟨_, rfl⟩ | ⟨q, c, rfl, _⟩
  · exact ⟨_, _, _, rfl⟩
  · exact ⟨_, _, _, rfl⟩
theorem SL.len {b : Nat} {σ : Heap} {cells : List Value} {v : Value} (h : SL b σ cells v) : ∃ a c, v = .slice a cells.length c := by
  rcases h with ⟨rfl, rfl⟩ | ⟨q, c, rfl, _⟩
  · exact ⟨_, _, rfl⟩
  · exact ⟨_, _, rfl⟩
def Frame (b : Nat) (cells : List Value) (σ σ' : Heap) : Prop := ∀ j bl, look σ j = some bl → (j < b ∨ bl.cells ≠ cells) → look σ' j = some bl
theorem SL.keep {b : Nat} {σ σ' : Heap} {c1 c2 : List Value} {v : Value} (h : SL b σ c2 v) (fr : Frame b c1 σ σ') (hne : c2 ≠ [] → c2 ≠ c1) : SL b σ' c2 v := by
  rcases h with h | ⟨q, c, h1, h2, h4, h3⟩
  · exact .inl h
  · exact .inr ⟨q, c, h1, h2, h4, fr q _ h3 (.inr (hne h4))⟩
theorem app62 {b : Nat} {σ : Heap} {cells : List Value} {v : Value} (x : Value) (h : SL b σ cells v) (hb : b ≤ σ.length) (hs : cells.length ≤ 1000) :
    ∃ q' c' σ', aappend Tryd.prog (σ ++ [some ⟨[x], true, 1⟩]) #[62, 62] v (.slice (some ⟨σ.length, 0, none⟩) 1 1) = some (.slice (some ⟨q', 0, none⟩) (cells.length + 1) (c' + 1), σ') ∧
      SL b σ' (cells ++ [x]) (.slice (some ⟨q', 0, none⟩) (cells.length + 1) (c' + 1)) ∧ Frame b cells σ σ' ∧ (∀ τ : Heap, τ.length ≤ b → τ <+: σ → τ <+: σ') ∧ σ.length ≤ σ'.length := by
  have hsrc : asrc (σ ++ [some ⟨[x], true, 1⟩]) 1 (.slice (some ⟨σ.length, 0, none⟩) 1 1) = some (1, [x]) := by
    rw [src_ptr (b := ⟨[x], true, 1⟩) (by rw [look_app_new, look_zero]) (by simp)]
    rfl
  rcases h with ⟨rfl, rfl⟩ | ⟨q, c, rfl, h2, h4, h3⟩
  · rw [an62_62, hsrc, Option.bind_some, if_pos (by simp)]
    refine ⟨_, 1, _, rfl, .inr ⟨(σ ++ [some (⟨[x], true, 1⟩ : Blk)]).length, 1, by simp, by simp; omega, by simp, ?_⟩, fun j bl hj _ => ?_, fun τ hτ hp => (hp.trans (List.prefix_append _ _)).trans (List.prefix_append _ _), by simp <;> omega⟩
    · rw [look_app_new, look_zero]
      rfl
    · have hjl := look_lt hj
      rw [look_app_lt (by simp; omega), look_app_lt hjl]
      exact hj
  · have hq := look_lt h3
    have hpos : 0 < cells.length := List.length_pos_iff.2 h4
    rw [ap62_62, hsrc, Option.bind_some, if_pos (by simp; omega), if_neg (by omega), look_app_lt hq, h3, Option.bind_some, if_pos (by simp)]
    refine ⟨_, cells.length + 1, _, rfl, .inr ⟨(σ ++ [some (⟨[x], true, 1⟩ : Blk)]).length, cells.length + 1, by simp, by simp; omega, by simp, ?_⟩, fun j bl hj hor => ?_, fun τ hτ hp => (prefix_set (hp.trans (List.prefix_append _ _)) (by omega)).trans (List.prefix_append _ _), by simp <;> omega⟩
    · rw [lsn, look_zero, List.drop_zero]
    · have hjl := look_lt hj
      have hjq : j ≠ q := by
        rintro rfl
        rcases hor with hor | hor
        · omega
        · rw [h3] at hj
          exact hor (by rw [← Option.some.inj hj])
      rw [look_app_lt (by simp; omega), look_set_ne hjq, look_app_lt hjl]
      exact hj
theorem app52 {b : Nat} {σ : Heap} {cells : List Value} {v : Value} (x : Value) (h : SL b σ cells v) (hb : b ≤ σ.length) (hs : cells.length ≤ 1000) :
    ∃ q' c' σ', aappend Tryd.prog (σ ++ [some ⟨[x], true, 1⟩]) #[52, 52] v (.slice (some ⟨σ.length, 0, none⟩) 1 1) = some (.slice (some ⟨q', 0, none⟩) (cells.length + 1) (c' + 1), σ') ∧
      SL b σ' (cells ++ [x]) (.slice (some ⟨q', 0, none⟩) (cells.length + 1) (c' + 1)) ∧ Frame b cells σ σ' ∧ (∀ τ : Heap, τ.length ≤ b → τ <+: σ → τ <+: σ') ∧ σ.length ≤ σ'.length := by
  have hsrc : asrc (σ ++ [some ⟨[x], true, 1⟩]) 1 (.slice (some ⟨σ.length, 0, none⟩) 1 1) = some (1, [x]) := by
    rw [src_ptr (b := ⟨[x], true, 1⟩) (by rw [look_app_new, look_zero]) (by simp)]
    rfl
  rcases h with ⟨rfl, rfl⟩ | ⟨q, c, rfl, h2, h4, h3⟩
  · rw [an52_52, hsrc, Option.bind_some, if_pos (by simp)]
    refine ⟨_, 1, _, rfl, .inr ⟨(σ ++ [some (⟨[x], true, 1⟩ : Blk)]).length, 1, by simp, by simp; omega, by simp, ?_⟩, fun j bl hj _ => ?_, fun τ hτ hp => (hp.trans (List.prefix_append _ _)).trans (List.prefix_append _ _), by simp <;> omega⟩
    · rw [look_app_new, look_zero]
      rfl
    · have hjl := look_lt hj
      rw [look_app_lt (by simp; omega), look_app_lt hjl]
      exact hj
  · have hq := look_lt h3
    have hpos : 0 < cells.length := List.length_pos_iff.2 h4
    rw [ap52_52, hsrc, Option.bind_some, if_pos (by simp; omega), if_neg (by omega), look_app_lt hq, h3, Option.bind_some, if_pos (by simp)]
    refine ⟨_, cells.length + 1, _, rfl, .inr ⟨(σ ++ [some (⟨[x], true, 1⟩ : Blk)]).length, cells.length + 1, by simp, by simp; omega, by simp, ?_⟩, fun j bl hj hor => ?_, fun τ hτ hp => (prefix_set (hp.trans (List.prefix_append _ _)) (by omega)).trans (List.prefix_append _ _), by simp <;> omega⟩
    · rw [lsn, look_zero, List.drop_zero]
    · have hjl := look_lt hj
      have hjq : j ≠ q := by
        rintro rfl
        rcases hor with hor | hor
        · omega
        · rw [h3] at hj
          exact hor (by rw [← Option.some.inj hj])
      rw [look_app_lt (by simp; omega), look_set_ne hjq, look_app_lt hjl]
      exact hj
def Mn (l : Ml) : List Value := l.map fun x => vstr x.1
def Mt (l : Ml) : List Value := l.map fun x => .int .i64 x.2
theorem mn_len (l : Ml) : (Mn l).length = l.length := by simp [Mn]
theorem mt_len (l : Ml) : (Mt l).length = l.length := by simp [Mt]
theorem mn_mt {l l' : Ml} (h : Mn l ≠ []) : Mn l ≠ Mt l' := by
  cases l with
  | nil => exact absurd rfl h
  | cons x l =>
    cases l' with
    | nil => simp [Mn, Mt]
    | cons y l' => simp [Mn, Mt, vstr]
theorem mt_mn {l l' : Ml} (h : Mt l ≠ []) : Mt l ≠ Mn l' := by
  cases l with
  | nil => exact absurd rfl h
  | cons x l =>
    cases l' with
    | nil => simp [Mn, Mt]
    | cons y l' => simp [Mn, Mt, vstr]
theorem mn_at {l : Ml} {i : Nat} {x : List UInt8 × Int} (h : l[i]? = some x) : (Mn l)[i]? = some (.string (str x.1)) := by
  rw [Mn, List.getElem?_map, h]
  rfl
theorem mt_at {l : Ml} {i : Nat} {x : List UInt8 × Int} (h : l[i]? = some x) : (Mt l)[i]? = some (.int .i64 x.2) := by
  rw [Mt, List.getElem?_map, h]
  rfl
/-- A sum: its names and their multiplicities. -/
def SumV (b : Nat) (σ : Heap) (l : Ml) (ns ts : Value) : Prop := SL b σ (Mn l) ns ∧ SL b σ (Mt l) ts
theorem SumV.mono {b : Nat} {σ σ' : Heap} {l : Ml} {ns ts : Value} (h : SumV b σ l ns ts) (hp : σ <+: σ') : SumV b σ' l ns ts := ⟨h.1.mono hp, h.2.mono hp⟩
/-- What is kept so far. -/
def keepM (name : List UInt8) (t : Int) (l : Ml) : Ml := (l.map (updM name t)).filter fun x => decide (x.2 ≠ 0)
theorem keepM_succ {name : List UInt8} {t : Int} {l : Ml} {i : Nat} {x : List UInt8 × Int} (h : l[i]? = some x) : keepM name t (l.take (i + 1)) = keepM name t (l.take i) ++ (if (updM name t x).2 ≠ 0 then [updM name t x] else []) := by
  unfold keepM
  rw [List.take_add_one, h, List.map_append, List.filter_append]
  by_cases hz : (updM name t x).2 ≠ 0
  · rw [if_pos hz]
    simp [hz]
  · rw [if_neg hz]
    have hz' := Decidable.not_not.1 hz
    simp [hz']
theorem mem_succ {name : List UInt8} {l : Ml} {i : Nat} {x : List UInt8 × Int} (h : l[i]? = some x) : (name ∈ (l.take (i + 1)).map (·.1)) ↔ (name ∈ (l.take i).map (·.1) ∨ x.1 = name) := by
  rw [List.take_add_one, h, List.map_append, List.mem_append]
  simp [eq_comm]
theorem keepM_len (name : List UInt8) (t : Int) (l : Ml) : (keepM name t l).length ≤ l.length := by
  unfold keepM
  exact Nat.le_trans (List.length_filter_le _ _) (by simp)
theorem withL_eq (l : Ml) (name : List UInt8) (t : Int) : withL l name t = keepM name t l ++ (if name ∉ l.map (·.1) ∧ name ≠ [] then [(name, t)] else []) := rfl
set_option maxHeartbeats 4000000 in
theorem f105_ok (X : Ext) (l : Ml) (ns ts : Value) (num : Int) (name : List UInt8) (t : Int) (b0 : Nat) (σ : Heap) (hl : SumV b0 σ l ns ts) (hz : l.length ≤ 100) (hn : ∀ x ∈ l, -100 ≤ x.2 ∧ x.2 ≤ 100) (ht : -100 ≤ t ∧ t ≤ 100) :
    CW Tryd.prog X 105 [.agg [ns, ts, .int .i64 num].toArray, .string (str name), .int .i64 t] σ fun v σ' => (∃ ns' ts', v = .agg [ns', ts', .int .i64 num].toArray ∧ SumV σ.length σ' (withL l name t) ns' ts') ∧ σ <+: σ' := by
  refine cw_in Tryd.func105 rfl Tryd.ntmps105 (rs := [.cell 6 140]) rfl (by kernel_rfl) (by exact Nat.le_of_ble_eq_true rfl) ?_
  obtain ⟨a1, n1, c1, hns⟩ := hl.1.slice
  obtain ⟨a2, n2, c2, hts⟩ := hl.2.slice
  rw [hns, hts]
  simp only [go_sem, ↓reduceIte, Nat.reduceEqDiff, Nat.reduceAdd, Nat.reduceMul, Nat.reduceLT, Nat.reduceLeDiff, Int.reduceLT, Int.reduceLE, Int.reduceNeg, Int.reduceAdd, Int.reduceSub, Int.reduceMul, Int.reduceToNat, Int.reduceEq, Int.reduceNe, Int.cast_ofNat_Int, Int.natCast_one, Int.natCast_zero, Int.natCast_add, reduceCtorEq]
  have hlen1 : n1 = l.length := by
    obtain ⟨a, c, h⟩ := hl.1.len
    rw [hns, mn_len] at h
    injection h
  subst hlen1
  rw [← hns, ← hts]
  refine LW_run (fun k T ρ => ∃ (i : Nat) (ns' ts' : Value), i + k = l.length ∧ σ <+: ρ ∧ σ.length + 3 ≤ ρ.length ∧ T 1 = .string (str name) ∧ T 2 = .int .i64 t ∧ T 3 = .pointer (some ⟨σ.length, 0, none⟩) ∧ T 6 = .pointer (some ⟨σ.length + 1, 0, none⟩) ∧ T 7 = .pointer (some ⟨σ.length + 2, 0, none⟩) ∧ T 8 = .bool (decide (name ∈ (l.take i).map (·.1))) ∧ T 9 = .int .i64 i ∧
      look ρ σ.length = some ⟨[ns, ts, .int .i64 num], true, 0⟩ ∧ look ρ (σ.length + 1) = some ⟨[.slice none 0 0, .slice none 0 0, .int .i64 0], true, 0⟩ ∧ look ρ (σ.length + 2) = some ⟨[ns', ts', .int .i64 num], true, 0⟩ ∧ SumV (σ.length + 3) ρ (keepM name t (l.take i)) ns' ts') l.length
    ⟨0, .slice none 0 0, .slice none 0 0, by simp, List.prefix_append _ _, by simp, rfl, rfl, rfl, rfl, rfl, by simp [putT], rfl, by rw [look_app_new, look_zero], by rw [look_app_add]; rfl, by rw [look_app_add]; rfl, .inl ⟨rfl, rfl⟩, .inl ⟨rfl, rfl⟩⟩ ?_
  rintro k T ρ ⟨i, ns', ts', hk, hp, hb, t1, t2, t3, t6, t7, t8, t9, h3, h6, h7, hS⟩
  simp only [go_sem, ↓reduceIte, Nat.reduceEqDiff, Nat.reduceAdd, Nat.reduceMul, Nat.reduceLT, Nat.reduceLeDiff, Int.reduceLT, Int.reduceLE, Int.reduceNeg, Int.reduceAdd, Int.reduceSub, Int.reduceMul, Int.reduceToNat, Int.reduceEq, Int.reduceNe, Int.cast_ofNat_Int, Int.natCast_one, Int.natCast_zero, Int.natCast_add, reduceCtorEq, t1, t2, t3, t6, t7, t8, t9, h3, hns]
  have h7l := look_lt h7
  have h6l := look_lt h6
  refine fork_dec (fun _ => ?_) (fun _ => ?_)
  · rename_i hi
    obtain ⟨x, hx⟩ : ∃ x, l[i]? = some x := ⟨_, List.getElem?_eq_getElem (by omega)⟩
    have hw : IntKind.i64.wrap ((i : Int) + 1) = (i : Int) + 1 := wrap64 (by omega)
    have hxn := hn x (List.mem_of_getElem? hx)
    have hwt : IntKind.i64.wrap (x.2 + t) = x.2 + t := wrap64 (by omega)
    have hkl := keepM_len name t (l.take i)
    rw [List.length_take] at hkl
    have hks := keepM_succ (name := name) (t := t) hx
    have hms := mem_succ (name := name) hx
    obtain ⟨q1, d1, hns1, hq1⟩ : ∃ q c, ns = .slice (some ⟨q, 0, none⟩) l.length (c + 1) ∧ look ρ q = some ⟨Mn l, true, 1⟩ := by
      rcases (hl.mono hp).1 with ⟨h, _⟩ | ⟨q, c, h1, _, _, h2⟩
      · have := congrArg List.length h
        rw [mn_len, List.length_nil] at this
        omega
      · exact ⟨q, c, by rw [h1, mn_len], h2⟩
    obtain ⟨q2, d2, hts1, hq2⟩ : ∃ q c, ts = .slice (some ⟨q, 0, none⟩) l.length (c + 1) ∧ look ρ q = some ⟨Mt l, true, 1⟩ := by
      rcases (hl.mono hp).2 with ⟨h, _⟩ | ⟨q, c, h1, _, _, h2⟩
      · have := congrArg List.length h
        rw [mt_len, List.length_nil] at this
        omega
      · exact ⟨q, c, by rw [h1, mt_len], h2⟩
    have hna := mn_at hx
    have hta := mt_at hx
    rw [hns1, hts1] at h3
    generalize hkp : keepM name t (l.take i) = l' at *
    by_cases e : x.1 = name
    · by_cases hz : x.2 + t = 0
      · have hz0 : (updM name t x).2 = 0 := by rw [updM]; simp only [if_pos e, eq_true e]; exact hz
        rw [if_neg (fun h => h hz0), List.append_nil] at hks
        simp only [go_sem, ↓reduceIte, Nat.reduceEqDiff, Nat.reduceAdd, Nat.reduceMul, Nat.reduceLT, Nat.reduceLeDiff, Int.reduceLT, Int.reduceLE, Int.reduceNeg, Int.reduceAdd, Int.reduceSub, Int.reduceMul, Int.reduceToNat, Int.reduceEq, Int.reduceNe, Int.cast_ofNat_Int, Int.natCast_one, Int.natCast_zero, Int.natCast_add, reduceCtorEq, t1, t2, t3, t6, t7, t8, t9, hi, h3, hq1, hq2, hna, hta, h7, hw, hwt, if_pos e, eq_true e, eq_true hz]
        refine ⟨k - 1, by omega, i + 1, ns', ts', by omega, hp, ?_⟩
        rw [hks]
        (repeat' (first | exact rfl | apply And.intro))
        · exact hb
        · exact congrArg Value.bool (decide_eq_true (hms.2 (.inr e))).symm
        · rw [← hns1, ← hts1, hns]
        · exact h6
        · exact hS.1
        · exact hS.2
      · have hz0 : ¬ (updM name t x).2 = 0 := by rw [updM]; simp only [if_pos e, eq_true e]; exact hz
        rw [if_pos hz0] at hks
        obtain ⟨qa, ca, ρ1, hap1, hs1, hf1, hpf1, hle1⟩ := app62 (.string (str x.1)) hS.1 hb (by rw [mn_len]; omega)
        have h7a := hf1 _ _ h7 (.inl (by omega))
        have h7al := look_lt h7a
        have hS2 := (hS.2.keep hf1 mt_mn).set (p := σ.length + 2) (x := some ⟨[.slice (some ⟨qa, 0, none⟩) ((Mn l').length + 1) (ca + 1), ts', .int .i64 num], true, 0⟩) (by omega)
        obtain ⟨qb, cb, ρ2, hap2, hs2, hf2, hpf2, hle2⟩ := app52 (.int .i64 (x.2 + t)) hS2 (by rw [List.length_set]; omega) (by rw [mt_len]; omega)
        have h7b := hf2 (σ.length + 2) ⟨[.slice (some ⟨qa, 0, none⟩) ((Mn l').length + 1) (ca + 1), ts', .int .i64 num], true, 0⟩ (by rw [look_set h7al, if_pos rfl]) (.inl (by omega))
        have h7bl := look_lt h7b
        rw [List.length_set] at hap2 hle2
        have h3a := hf1 _ _ h3 (.inl (by omega))
        have h3b := hf2 _ _ ((look_set_ne (by omega)).trans h3a) (.inl (by omega))
        have h6a := hf1 _ _ h6 (.inl (by omega))
        have h6b := hf2 _ _ ((look_set_ne (by omega)).trans h6a) (.inl (by omega))
        simp only [go_sem, ↓reduceIte, Nat.reduceEqDiff, Nat.reduceAdd, Nat.reduceMul, Nat.reduceLT, Nat.reduceLeDiff, Int.reduceLT, Int.reduceLE, Int.reduceNeg, Int.reduceAdd, Int.reduceSub, Int.reduceMul, Int.reduceToNat, Int.reduceEq, Int.reduceNe, Int.cast_ofNat_Int, Int.natCast_one, Int.natCast_zero, Int.natCast_add, reduceCtorEq, t1, t2, t3, t6, t7, t8, t9, hi, h3, hq1, hq2, hna, hta, h7, hap1, h7a, look_set h7al, hap2, h7b, hw, hwt, if_pos e, eq_true e, eq_false hz]
        refine And.intro (quiet_look (by kernel_rfl)) ?_
        simp only [go_sem, ↓reduceIte, Nat.reduceEqDiff, Nat.reduceAdd, Nat.reduceMul, Nat.reduceLT, Nat.reduceLeDiff, Int.reduceLT, Int.reduceLE, Int.reduceNeg, Int.reduceAdd, Int.reduceSub, Int.reduceMul, Int.reduceToNat, Int.reduceEq, Int.reduceNe, Int.cast_ofNat_Int, Int.natCast_one, Int.natCast_zero, Int.natCast_add, reduceCtorEq, t1, t2, t3, t6, t7, t8, t9, hi, h3, hq1, hq2, hna, hta, h7, hap1, h7a, look_set h7al, hap2, h7b, hw, hwt, if_pos e, eq_true e, eq_false hz]
        refine And.intro (quiet_look (by kernel_rfl)) ?_
        refine ⟨k - 1, by omega, i + 1, .slice (some ⟨qa, 0, none⟩) ((Mn l').length + 1) (ca + 1), .slice (some ⟨qb, 0, none⟩) ((Mt l').length + 1) (cb + 1), by omega, ?_⟩
        have eqn : Mn (l' ++ [updM name t x]) = Mn l' ++ [.string (str x.1)] := by simp [Mn, vstr, updM]
        have eqt : Mt (l' ++ [updM name t x]) = Mt l' ++ [.int .i64 (x.2 + t)] := by simp [Mt, updM, e]
        (repeat' (first | exact rfl | apply And.intro))
        · exact prefix_set (hpf2 σ (by omega) (prefix_set (hpf1 σ (by omega) hp) (by omega))) (by omega)
        · omega
        · exact congrArg Value.bool (decide_eq_true (hms.2 (.inr e))).symm
        · rw [look_set_ne (by omega), h3b, ← hns1, ← hts1, hns]
        · exact (look_set_ne (by omega)).trans h6b
        · rw [look_set h7bl, if_pos rfl]
        · rw [hks, eqn]
          rw [← eqn] at hs1 ⊢
          exact ((hs1.set (by omega)).keep hf2 mn_mt).set (by omega)
        · rw [hks, eqt]
          exact hs2.set (by omega)
    · by_cases hz : x.2 = 0
      · have hz0 : (updM name t x).2 = 0 := by rw [updM]; simp only [if_neg e, eq_false e]; exact hz
        rw [if_neg (fun h => h hz0), List.append_nil] at hks
        simp only [go_sem, ↓reduceIte, Nat.reduceEqDiff, Nat.reduceAdd, Nat.reduceMul, Nat.reduceLT, Nat.reduceLeDiff, Int.reduceLT, Int.reduceLE, Int.reduceNeg, Int.reduceAdd, Int.reduceSub, Int.reduceMul, Int.reduceToNat, Int.reduceEq, Int.reduceNe, Int.cast_ofNat_Int, Int.natCast_one, Int.natCast_zero, Int.natCast_add, reduceCtorEq, t1, t2, t3, t6, t7, t8, t9, hi, h3, hq1, hq2, hna, hta, h7, hw, hwt, if_neg e, eq_false e, eq_true hz]
        refine ⟨k - 1, by omega, i + 1, ns', ts', by omega, hp, ?_⟩
        rw [hks]
        (repeat' (first | exact rfl | apply And.intro))
        · exact hb
        · exact congrArg Value.bool (decide_eq_decide.2 ⟨fun h => hms.2 (.inl h), fun h => (hms.1 h).elim id fun h => absurd h e⟩)
        · rw [← hns1, ← hts1, hns]
        · exact h6
        · exact hS.1
        · exact hS.2
      · have hz0 : ¬ (updM name t x).2 = 0 := by rw [updM]; simp only [if_neg e, eq_false e]; exact hz
        rw [if_pos hz0] at hks
        obtain ⟨qa, ca, ρ1, hap1, hs1, hf1, hpf1, hle1⟩ := app62 (.string (str x.1)) hS.1 hb (by rw [mn_len]; omega)
        have h7a := hf1 _ _ h7 (.inl (by omega))
        have h7al := look_lt h7a
        have hS2 := (hS.2.keep hf1 mt_mn).set (p := σ.length + 2) (x := some ⟨[.slice (some ⟨qa, 0, none⟩) ((Mn l').length + 1) (ca + 1), ts', .int .i64 num], true, 0⟩) (by omega)
        obtain ⟨qb, cb, ρ2, hap2, hs2, hf2, hpf2, hle2⟩ := app52 (.int .i64 (x.2)) hS2 (by rw [List.length_set]; omega) (by rw [mt_len]; omega)
        have h7b := hf2 (σ.length + 2) ⟨[.slice (some ⟨qa, 0, none⟩) ((Mn l').length + 1) (ca + 1), ts', .int .i64 num], true, 0⟩ (by rw [look_set h7al, if_pos rfl]) (.inl (by omega))
        have h7bl := look_lt h7b
        rw [List.length_set] at hap2 hle2
        have h3a := hf1 _ _ h3 (.inl (by omega))
        have h3b := hf2 _ _ ((look_set_ne (by omega)).trans h3a) (.inl (by omega))
        have h6a := hf1 _ _ h6 (.inl (by omega))
        have h6b := hf2 _ _ ((look_set_ne (by omega)).trans h6a) (.inl (by omega))
        simp only [go_sem, ↓reduceIte, Nat.reduceEqDiff, Nat.reduceAdd, Nat.reduceMul, Nat.reduceLT, Nat.reduceLeDiff, Int.reduceLT, Int.reduceLE, Int.reduceNeg, Int.reduceAdd, Int.reduceSub, Int.reduceMul, Int.reduceToNat, Int.reduceEq, Int.reduceNe, Int.cast_ofNat_Int, Int.natCast_one, Int.natCast_zero, Int.natCast_add, reduceCtorEq, t1, t2, t3, t6, t7, t8, t9, hi, h3, hq1, hq2, hna, hta, h7, hap1, h7a, look_set h7al, hap2, h7b, hw, hwt, if_neg e, eq_false e, eq_false hz]
        refine And.intro (quiet_look (by kernel_rfl)) ?_
        simp only [go_sem, ↓reduceIte, Nat.reduceEqDiff, Nat.reduceAdd, Nat.reduceMul, Nat.reduceLT, Nat.reduceLeDiff, Int.reduceLT, Int.reduceLE, Int.reduceNeg, Int.reduceAdd, Int.reduceSub, Int.reduceMul, Int.reduceToNat, Int.reduceEq, Int.reduceNe, Int.cast_ofNat_Int, Int.natCast_one, Int.natCast_zero, Int.natCast_add, reduceCtorEq, t1, t2, t3, t6, t7, t8, t9, hi, h3, hq1, hq2, hna, hta, h7, hap1, h7a, look_set h7al, hap2, h7b, hw, hwt, if_neg e, eq_false e, eq_false hz]
        refine And.intro (quiet_look (by kernel_rfl)) ?_
        refine ⟨k - 1, by omega, i + 1, .slice (some ⟨qa, 0, none⟩) ((Mn l').length + 1) (ca + 1), .slice (some ⟨qb, 0, none⟩) ((Mt l').length + 1) (cb + 1), by omega, ?_⟩
        have eqn : Mn (l' ++ [updM name t x]) = Mn l' ++ [.string (str x.1)] := by simp [Mn, vstr, updM]
        have eqt : Mt (l' ++ [updM name t x]) = Mt l' ++ [.int .i64 (x.2)] := by simp [Mt, updM, e]
        (repeat' (first | exact rfl | apply And.intro))
        · exact prefix_set (hpf2 σ (by omega) (prefix_set (hpf1 σ (by omega) hp) (by omega))) (by omega)
        · omega
        · exact congrArg Value.bool (decide_eq_decide.2 ⟨fun h => hms.2 (.inl h), fun h => (hms.1 h).elim id fun h => absurd h e⟩)
        · rw [look_set_ne (by omega), h3b, ← hns1, ← hts1, hns]
        · exact (look_set_ne (by omega)).trans h6b
        · rw [look_set h7bl, if_pos rfl]
        · rw [hks, eqn]
          rw [← eqn] at hs1 ⊢
          exact ((hs1.set (by omega)).keep hf2 mn_mt).set (by omega)
        · rw [hks, eqt]
          exact hs2.set (by omega)
  · rename_i hi
    have hil : l.take i = l := List.take_of_length_le (by omega)
    rw [hil] at hS t8
    have hkl := keepM_len name t l
    rw [withL_eq]
    generalize hkp : keepM name t l = l' at *
    by_cases hf : name ∈ l.map (·.1)
    · rw [if_neg (fun h => h.1 hf), List.append_nil]
      have o1 : ns'.oneCell' = true := by obtain ⟨_, _, _, h⟩ := hS.1.slice; rw [h]; rfl
      have o2 : ts'.oneCell' = true := by obtain ⟨_, _, _, h⟩ := hS.2.slice; rw [h]; rfl
      simp only [go_sem, ↓reduceIte, Nat.reduceEqDiff, Nat.reduceAdd, Nat.reduceMul, Nat.reduceLT, Nat.reduceLeDiff, Int.reduceLT, Int.reduceLE, Int.reduceNeg, Int.reduceAdd, Int.reduceSub, Int.reduceMul, Int.reduceToNat, Int.reduceEq, Int.reduceNe, Int.cast_ofNat_Int, Int.natCast_one, Int.natCast_zero, Int.natCast_add, reduceCtorEq, t1, t2, t3, t6, t7, t8, t9, h7, h6, look_set h6l, o1, o2, eq_true hf]
      exact ⟨⟨ns', ts', rfl, (hS.1.set (by omega)).lower (by omega), (hS.2.set (by omega)).lower (by omega)⟩, prefix_set hp (by omega)⟩
    by_cases hn0 : name = []
    · rw [if_neg (fun h => h.2 hn0), List.append_nil]
      have o1 : ns'.oneCell' = true := by obtain ⟨_, _, _, h⟩ := hS.1.slice; rw [h]; rfl
      have o2 : ts'.oneCell' = true := by obtain ⟨_, _, _, h⟩ := hS.2.slice; rw [h]; rfl
      simp only [go_sem, ↓reduceIte, Nat.reduceEqDiff, Nat.reduceAdd, Nat.reduceMul, Nat.reduceLT, Nat.reduceLeDiff, Int.reduceLT, Int.reduceLE, Int.reduceNeg, Int.reduceAdd, Int.reduceSub, Int.reduceMul, Int.reduceToNat, Int.reduceEq, Int.reduceNe, Int.cast_ofNat_Int, Int.natCast_one, Int.natCast_zero, Int.natCast_add, reduceCtorEq, t1, t2, t3, t6, t7, t8, t9, h7, h6, look_set h6l, o1, o2, eq_false hf, eq_true hn0]
      exact ⟨⟨ns', ts', rfl, (hS.1.set (by omega)).lower (by omega), (hS.2.set (by omega)).lower (by omega)⟩, prefix_set hp (by omega)⟩
    rw [if_pos ⟨hf, hn0⟩]
    obtain ⟨qa, ca, ρ1, hap1, hs1, hf1, hpf1, hle1⟩ := app62 (.string (str name)) hS.1 hb (by rw [mn_len]; omega)
    have h7a := hf1 _ _ h7 (.inl (by omega))
    have h7al := look_lt h7a
    have hS2 := (hS.2.keep hf1 mt_mn).set (p := σ.length + 2) (x := some ⟨[.slice (some ⟨qa, 0, none⟩) ((Mn l').length + 1) (ca + 1), ts', .int .i64 num], true, 0⟩) (by omega)
    obtain ⟨qb, cb, ρ2, hap2, hs2, hf2, hpf2, hle2⟩ := app52 (.int .i64 t) hS2 (by rw [List.length_set]; omega) (by rw [mt_len]; omega)
    have h7b := hf2 (σ.length + 2) ⟨[.slice (some ⟨qa, 0, none⟩) ((Mn l').length + 1) (ca + 1), ts', .int .i64 num], true, 0⟩ (by rw [look_set h7al, if_pos rfl]) (.inl (by omega))
    have h7bl := look_lt h7b
    rw [List.length_set] at hap2 hle2
    have h6a := hf1 _ _ h6 (.inl (by omega))
    have h6b := hf2 _ _ ((look_set_ne (by omega)).trans h6a) (.inl (by omega))
    have h6bl := look_lt h6b
    have eqn : Mn (l' ++ [(name, t)]) = Mn l' ++ [.string (str name)] := by simp [Mn, vstr]
    have eqt : Mt (l' ++ [(name, t)]) = Mt l' ++ [.int .i64 t] := by simp [Mt]
    simp only [go_sem, ↓reduceIte, Nat.reduceEqDiff, Nat.reduceAdd, Nat.reduceMul, Nat.reduceLT, Nat.reduceLeDiff, Int.reduceLT, Int.reduceLE, Int.reduceNeg, Int.reduceAdd, Int.reduceSub, Int.reduceMul, Int.reduceToNat, Int.reduceEq, Int.reduceNe, Int.cast_ofNat_Int, Int.natCast_one, Int.natCast_zero, Int.natCast_add, reduceCtorEq, t1, t2, t3, t6, t7, t8, t9, h7, hap1, h7a, look_set h7al, hap2, h7b, look_set h7bl, eq_false hf, eq_false hn0, lss h7bl h6bl, h6b, eq_false (show ¬ σ.length + 1 = σ.length + 2 by omega), eq_false (show ¬ σ.length = σ.length + 1 by omega)]
    rw [← eqn] at hs1
    rw [← eqt] at hs2
    refine ⟨⟨_, _, rfl, ?_, ((hs2.set (by omega)).set (by omega)).lower (by omega)⟩, prefix_set (prefix_set (hpf2 σ (by omega) (prefix_set (hpf1 σ (by omega) hp) (by omega))) (by omega)) (by omega)⟩
    exact ((((hs1.set (by omega)).keep hf2 mn_mt).set (by omega)).set (by omega)).lower (by omega)
set_option maxHeartbeats 4000000 in
theorem f106_ok (X : Ext) (l : Ml) (ns ts : Value) (num : Int) (b0 : Nat) (σ : Heap) (hl : SumV b0 σ l ns ts) (hz : l.length ≤ 100) :
    CW Tryd.prog X 106 [.agg [ns, ts, .int .i64 num].toArray] σ fun v σ' => v = .tuple #[.agg (((linGo l [] []).map fun r => (⟨r.1, r.2, num⟩ : Lin)).getD Lin.zero).cells.toArray, .bool (linGo l [] []).isSome] ∧ σ <+: σ' := by
  refine cw_in Tryd.func106 rfl Tryd.ntmps106 (rs := [.cell 2 40, .tmp 3]) rfl (by kernel_rfl) (by exact Nat.le_of_ble_eq_true rfl) ?_
  obtain ⟨a1, n1, c1, hns⟩ := hl.1.slice
  obtain ⟨a2, n2, c2, hts⟩ := hl.2.slice
  rw [hns, hts]
  simp only [go_sem, ↓reduceIte, Nat.reduceEqDiff, Nat.reduceAdd, Nat.reduceMul, Nat.reduceLT, Nat.reduceLeDiff, Int.reduceLT, Int.reduceLE, Int.reduceNeg, Int.reduceAdd, Int.reduceSub, Int.reduceMul, Int.reduceToNat, Int.reduceEq, Int.reduceNe, Int.cast_ofNat_Int, Int.natCast_one, Int.natCast_zero, Int.natCast_add, reduceCtorEq]
  have hlen1 : n1 = l.length := by
    obtain ⟨a, c, h⟩ := hl.1.len
    rw [hns, mn_len] at h
    injection h
  subst hlen1
  rw [← hns, ← hts]
  refine LW_run (fun k T ρ => ∃ (i : Nat) (s m : List UInt8), i + k = l.length ∧ ρ = σ ++ [some ⟨[ns, ts, .int .i64 num], true, 0⟩, some ⟨[.string (str []), .string (str []), .int .i64 0], true, 0⟩, some ⟨[.string (str s), .string (str m), .int .i64 num], true, 0⟩] ∧ T 1 = .pointer (some ⟨σ.length, 0, none⟩) ∧ T 2 = .pointer (some ⟨σ.length + 1, 0, none⟩) ∧ T 4 = .pointer (some ⟨σ.length + 2, 0, none⟩) ∧ T 5 = .int .i64 i ∧ linGo l [] [] = linGo (l.drop i) s m) l.length
    ⟨0, [], [], by simp, rfl, rfl, rfl, rfl, rfl, rfl⟩ ?_
  rintro k T _ ⟨i, s, m, hk, rfl, t1, t2, t4, t5, hv⟩
  simp only [go_sem, ↓reduceIte, Nat.reduceEqDiff, Nat.reduceAdd, Nat.reduceMul, Nat.reduceLT, Nat.reduceLeDiff, Int.reduceLT, Int.reduceLE, Int.reduceNeg, Int.reduceAdd, Int.reduceSub, Int.reduceMul, Int.reduceToNat, Int.reduceEq, Int.reduceNe, Int.cast_ofNat_Int, Int.natCast_one, Int.natCast_zero, Int.natCast_add, reduceCtorEq, t1, t2, t4, t5, hns]
  refine fork_dec (fun _ => ?_) (fun _ => ?_)
  · rename_i hi
    obtain ⟨x, hx⟩ : ∃ x, l[i]? = some x := ⟨_, List.getElem?_eq_getElem (by omega)⟩
    have hw : IntKind.i64.wrap ((i : Int) + 1) = (i : Int) + 1 := wrap64 (by omega)
    rw [drop_at hx, linGo] at hv
    obtain ⟨q1, d1, hns1, hq1⟩ : ∃ q c, ns = .slice (some ⟨q, 0, none⟩) l.length (c + 1) ∧ look σ q = some ⟨Mn l, true, 1⟩ := by
      rcases hl.1 with ⟨h, _⟩ | ⟨q, c, h1, _, _, h2⟩
      · have := congrArg List.length h
        rw [mn_len, List.length_nil] at this
        omega
      · exact ⟨q, c, by rw [h1, mn_len], h2⟩
    obtain ⟨q2, d2, hts1, hq2⟩ : ∃ q c, ts = .slice (some ⟨q, 0, none⟩) l.length (c + 1) ∧ look σ q = some ⟨Mt l, true, 1⟩ := by
      rcases hl.2 with ⟨h, _⟩ | ⟨q, c, h1, _, _, h2⟩
      · have := congrArg List.length h
        rw [mt_len, List.length_nil] at this
        omega
      · exact ⟨q, c, by rw [h1, mt_len], h2⟩
    have hna := mn_at hx
    have hta := mt_at hx
    have hq1l := look_lt hq1
    have hq2l := look_lt hq2
    rw [← hns, hns1, hts1]
    by_cases e1 : x.2 = 1
    · by_cases e2 : s = []
      · rw [if_pos ⟨e1, e2⟩] at hv
        simp only [go_sem, ↓reduceIte, Nat.reduceEqDiff, Nat.reduceAdd, Nat.reduceMul, Nat.reduceLT, Nat.reduceLeDiff, Int.reduceLT, Int.reduceLE, Int.reduceNeg, Int.reduceAdd, Int.reduceSub, Int.reduceMul, Int.reduceToNat, Int.reduceEq, Int.reduceNe, Int.cast_ofNat_Int, Int.natCast_one, Int.natCast_zero, Int.natCast_add, reduceCtorEq, t1, t2, t4, t5, hi, look_app_lt hq1l, look_app_lt hq2l, hq1, hq2, hna, hta, hw, eq_true e1, eq_true e2]
        refine ⟨k - 1, by omega, i + 1, x.1, m, by omega, ?_⟩
        (repeat' (first | exact rfl | apply And.intro))
        exact hv
      · rw [if_neg (fun h => e2 h.2), if_neg (by omega)] at hv
        simp only [go_sem, ↓reduceIte, Nat.reduceEqDiff, Nat.reduceAdd, Nat.reduceMul, Nat.reduceLT, Nat.reduceLeDiff, Int.reduceLT, Int.reduceLE, Int.reduceNeg, Int.reduceAdd, Int.reduceSub, Int.reduceMul, Int.reduceToNat, Int.reduceEq, Int.reduceNe, Int.cast_ofNat_Int, Int.natCast_one, Int.natCast_zero, Int.natCast_add, reduceCtorEq, t1, t2, t4, t5, hi, look_app_lt hq1l, look_app_lt hq2l, hq1, hq2, hna, hta, hw, eq_true e1, eq_false e2, eq_false (show ¬ x.2 = -1 by omega)]
        rw [hv]
        exact ⟨rfl, List.prefix_append _ _⟩
    · rw [if_neg (fun h => e1 h.1)] at hv
      by_cases e3 : x.2 = -1
      · by_cases e4 : m = []
        · rw [if_pos ⟨e3, e4⟩] at hv
          simp only [go_sem, ↓reduceIte, Nat.reduceEqDiff, Nat.reduceAdd, Nat.reduceMul, Nat.reduceLT, Nat.reduceLeDiff, Int.reduceLT, Int.reduceLE, Int.reduceNeg, Int.reduceAdd, Int.reduceSub, Int.reduceMul, Int.reduceToNat, Int.reduceEq, Int.reduceNe, Int.cast_ofNat_Int, Int.natCast_one, Int.natCast_zero, Int.natCast_add, reduceCtorEq, t1, t2, t4, t5, hi, look_app_lt hq1l, look_app_lt hq2l, hq1, hq2, hna, hta, hw, eq_false e1, eq_true e3, eq_true e4]
          refine ⟨k - 1, by omega, i + 1, s, x.1, by omega, ?_⟩
          (repeat' (first | exact rfl | apply And.intro))
          exact hv
        · rw [if_neg (fun h => e4 h.2)] at hv
          simp only [go_sem, ↓reduceIte, Nat.reduceEqDiff, Nat.reduceAdd, Nat.reduceMul, Nat.reduceLT, Nat.reduceLeDiff, Int.reduceLT, Int.reduceLE, Int.reduceNeg, Int.reduceAdd, Int.reduceSub, Int.reduceMul, Int.reduceToNat, Int.reduceEq, Int.reduceNe, Int.cast_ofNat_Int, Int.natCast_one, Int.natCast_zero, Int.natCast_add, reduceCtorEq, t1, t2, t4, t5, hi, look_app_lt hq1l, look_app_lt hq2l, hq1, hq2, hna, hta, hw, eq_false e1, eq_true e3, eq_false e4]
          rw [hv]
          exact ⟨rfl, List.prefix_append _ _⟩
      · rw [if_neg (fun h => e3 h.1)] at hv
        simp only [go_sem, ↓reduceIte, Nat.reduceEqDiff, Nat.reduceAdd, Nat.reduceMul, Nat.reduceLT, Nat.reduceLeDiff, Int.reduceLT, Int.reduceLE, Int.reduceNeg, Int.reduceAdd, Int.reduceSub, Int.reduceMul, Int.reduceToNat, Int.reduceEq, Int.reduceNe, Int.cast_ofNat_Int, Int.natCast_one, Int.natCast_zero, Int.natCast_add, reduceCtorEq, t1, t2, t4, t5, hi, look_app_lt hq1l, look_app_lt hq2l, hq1, hq2, hna, hta, hw, eq_false e1, eq_false e3]
        rw [hv]
        exact ⟨rfl, List.prefix_append _ _⟩
  · rename_i hi
    rw [List.drop_eq_nil_of_le (by omega), linGo] at hv
    rw [hv]
    simp only [go_sem, ↓reduceIte, Nat.reduceEqDiff, Nat.reduceAdd, Nat.reduceMul, Nat.reduceLT, Nat.reduceLeDiff, Int.reduceLT, Int.reduceLE, Int.reduceNeg, Int.reduceAdd, Int.reduceSub, Int.reduceMul, Int.reduceToNat, Int.reduceEq, Int.reduceNe, Int.cast_ofNat_Int, Int.natCast_one, Int.natCast_zero, Int.natCast_add, reduceCtorEq, t1, t2, t4, t5]
    exact ⟨rfl, List.prefix_append _ _⟩
theorem withL_small {l : Ml} {name : List UInt8} {t : Int} {c : Int} (hc : 0 ≤ c) (h : ∀ x ∈ l, -c ≤ x.2 ∧ x.2 ≤ c) (ht : -1 ≤ t ∧ t ≤ 1) : (∀ x ∈ withL l name t, -(c + 1) ≤ x.2 ∧ x.2 ≤ c + 1) ∧ (withL l name t).length ≤ l.length + 1 := by
  constructor
  · intro x hx
    rcases List.mem_append.1 hx with hx | hx
    · obtain ⟨y, hy, rfl⟩ := List.mem_map.1 (List.mem_filter.1 hx).1
      have := h y hy
      unfold updM
      simp only
      split <;> omega
    · split at hx
      · rw [List.mem_singleton.1 hx]
        simp only
        omega
      · simp at hx
  · rw [withL_eq, List.length_append]
    have := keepM_len name t l
    split <;> simp <;> omega
set_option maxHeartbeats 4000000 in
theorem f87_ok (X : Ext) (a b : Lin) (s : Int) (hs : s = 1 ∨ s = -1) (ha : a.small) (hb : b.small) (σ : Heap) : CW Tryd.prog X 87 [.agg a.cells.toArray, .agg b.cells.toArray, .int .i64 s] σ fun v σ' =>
    v = .tuple #[.agg ((plusL a b s).getD Lin.zero).cells.toArray, .bool (plusL a b s).isSome] ∧ σ <+: σ' := by
  obtain ⟨_, _, a1, a2⟩ := ha
  obtain ⟨_, _, b1, b2⟩ := hb
  have hsb : -1099511627776 ≤ s * b.num ∧ s * b.num ≤ 1099511627776 := by rcases hs with rfl | rfl <;> omega
  have hw1 : IntKind.i64.wrap (s * b.num) = s * b.num := wrap64 (by omega)
  have hw2 : IntKind.i64.wrap (a.num + s * b.num) = a.num + s * b.num := wrap64 (by omega)
  have hw3 : IntKind.i64.wrap (0 - s) = -s := by rw [wrap64 (by omega)]; omega
  unfold plusL
  obtain ⟨s1, n1⟩ := withL_small (l := []) (name := a.sym) (t := 1) (c := 0) (by omega) (by simp) (by omega)
  obtain ⟨s2, n2⟩ := withL_small (name := a.minus) (t := -1) (by omega) s1 (by omega)
  obtain ⟨s3, n3⟩ := withL_small (name := b.sym) (t := s) (by omega) s2 (by omega)
  obtain ⟨s4, n4⟩ := withL_small (name := b.minus) (t := -s) (by omega) s3 (by omega)
  simp only [List.length_nil] at n1
  refine cw_in Tryd.func87 rfl Tryd.ntmps87 (rs := [.cell 6 40, .tmp 7]) rfl (by kernel_rfl) (by exact Nat.le_of_ble_eq_true rfl) ?_
  simp only [go_sem, ↓reduceIte, Nat.reduceEqDiff, Nat.reduceAdd, Nat.reduceMul, Nat.reduceLT, Nat.reduceLeDiff, Int.reduceLT, Int.reduceLE, Int.reduceNeg, Int.reduceAdd, Int.reduceSub, Int.reduceMul, Int.reduceToNat, Int.reduceEq, Int.reduceNe, Int.cast_ofNat_Int, Int.natCast_one, Int.natCast_zero, Int.natCast_add, reduceCtorEq, Lin.cells, hw1, hw2]
  refine (f105_ok X [] (.slice none 0 0) (.slice none 0 0) (a.num + s * b.num) a.sym 1 0 _ ⟨.inl ⟨rfl, rfl⟩, .inl ⟨rfl, rfl⟩⟩ (by simp) (by simp) (by omega)).mono ?_
  rintro _ ρ1 ⟨⟨ns1, ts1, rfl, hS1⟩, hp1⟩
  generalize hl1 : withL [] a.sym 1 = l1 at *
  have ka := look_prefix hp1 (show look _ σ.length = some _ by rw [look_app_new, look_zero])
  have kb := look_prefix hp1 (show look _ (σ.length + 1) = some _ by rw [look_app_add]; rfl)
  have k6 := look_prefix hp1 (show look _ (σ.length + 2) = some _ by rw [look_app_add]; rfl)
  have k8 := look_prefix hp1 (show look _ (σ.length + 3) = some _ by rw [look_app_add]; rfl)
  have k8l := look_lt k8
  have hP : σ <+: ρ1 := (List.prefix_append _ _).trans hp1
  have hS1' : SumV (σ.length + 4) ρ1 l1 ns1 ts1 := ⟨hS1.1.lower (by simp), hS1.2.lower (by simp)⟩
  clear hS1 hp1
  have o1 : ns1.oneCell' = true := by obtain ⟨_, _, _, h⟩ := hS1'.1.slice; rw [h]; rfl
  have o2 : ts1.oneCell' = true := by obtain ⟨_, _, _, h⟩ := hS1'.2.slice; rw [h]; rfl
  simp only [go_sem, ↓reduceIte, Nat.reduceEqDiff, Nat.reduceAdd, Nat.reduceMul, Nat.reduceLT, Nat.reduceLeDiff, Int.reduceLT, Int.reduceLE, Int.reduceNeg, Int.reduceAdd, Int.reduceSub, Int.reduceMul, Int.reduceToNat, Int.reduceEq, Int.reduceNe, Int.cast_ofNat_Int, Int.natCast_one, Int.natCast_zero, Int.natCast_add, reduceCtorEq, Lin.cells, k8, ka, kb, k6, o1, o2, look_set k8l, eq_false (show ¬ σ.length = σ.length + 3 by omega), eq_false (show ¬ σ.length + 1 = σ.length + 3 by omega), eq_false (show ¬ σ.length + 2 = σ.length + 3 by omega), hw3]
  refine (f105_ok X l1 ns1 ts1 (a.num + s * b.num) a.minus (-1) (σ.length + 4) (ρ1.set (σ.length + 3) (some ⟨[ns1, ts1, .int .i64 (a.num + s * b.num)], true, 0⟩)) ⟨hS1'.1.set (by omega), hS1'.2.set (by omega)⟩ (by omega) (fun x hx => by have := s1 x hx; omega) (by omega)).mono ?_
  rintro _ ρ2 ⟨⟨ns2, ts2, rfl, hS2⟩, hp2⟩
  generalize hl2 : withL l1 a.minus (-1) = l2 at *
  have hS2' : SumV (σ.length + 4) ρ2 l2 ns2 ts2 := ⟨hS2.1.lower (by rw [List.length_set]; omega), hS2.2.lower (by rw [List.length_set]; omega)⟩
  replace ka := look_prefix hp2 ((look_set_ne (by omega)).trans ka)
  replace kb := look_prefix hp2 ((look_set_ne (by omega)).trans kb)
  replace k6 := look_prefix hp2 ((look_set_ne (by omega)).trans k6)
  replace k8 := look_prefix hp2 (show look (ρ1.set (σ.length + 3) (some ⟨[ns1, ts1, .int .i64 (a.num + s * b.num)], true, 0⟩)) (σ.length + 3) = some _ by rw [look_set k8l, if_pos rfl])
  replace k8l := look_lt k8
  replace hP : σ <+: ρ2 := (prefix_set hP (by omega)).trans hp2
  clear hS2 hp2 o1 o2
  have o1 : ns2.oneCell' = true := by obtain ⟨_, _, _, h⟩ := hS2'.1.slice; rw [h]; rfl
  have o2 : ts2.oneCell' = true := by obtain ⟨_, _, _, h⟩ := hS2'.2.slice; rw [h]; rfl
  simp only [go_sem, ↓reduceIte, Nat.reduceEqDiff, Nat.reduceAdd, Nat.reduceMul, Nat.reduceLT, Nat.reduceLeDiff, Int.reduceLT, Int.reduceLE, Int.reduceNeg, Int.reduceAdd, Int.reduceSub, Int.reduceMul, Int.reduceToNat, Int.reduceEq, Int.reduceNe, Int.cast_ofNat_Int, Int.natCast_one, Int.natCast_zero, Int.natCast_add, reduceCtorEq, Lin.cells, k8, ka, kb, k6, o1, o2, look_set k8l, eq_false (show ¬ σ.length = σ.length + 3 by omega), eq_false (show ¬ σ.length + 1 = σ.length + 3 by omega), eq_false (show ¬ σ.length + 2 = σ.length + 3 by omega), hw3]
  refine (f105_ok X l2 ns2 ts2 (a.num + s * b.num) b.sym s (σ.length + 4) (ρ2.set (σ.length + 3) (some ⟨[ns2, ts2, .int .i64 (a.num + s * b.num)], true, 0⟩)) ⟨hS2'.1.set (by omega), hS2'.2.set (by omega)⟩ (by omega) (fun x hx => by have := s2 x hx; omega) (by omega)).mono ?_
  rintro _ ρ3 ⟨⟨ns3, ts3, rfl, hS3⟩, hp3⟩
  generalize hl3 : withL l2 b.sym s = l3 at *
  have hS3' : SumV (σ.length + 4) ρ3 l3 ns3 ts3 := ⟨hS3.1.lower (by rw [List.length_set]; omega), hS3.2.lower (by rw [List.length_set]; omega)⟩
  replace ka := look_prefix hp3 ((look_set_ne (by omega)).trans ka)
  replace kb := look_prefix hp3 ((look_set_ne (by omega)).trans kb)
  replace k6 := look_prefix hp3 ((look_set_ne (by omega)).trans k6)
  replace k8 := look_prefix hp3 (show look (ρ2.set (σ.length + 3) (some ⟨[ns2, ts2, .int .i64 (a.num + s * b.num)], true, 0⟩)) (σ.length + 3) = some _ by rw [look_set k8l, if_pos rfl])
  replace k8l := look_lt k8
  replace hP : σ <+: ρ3 := (prefix_set hP (by omega)).trans hp3
  clear hS3 hp3 o1 o2
  have o1 : ns3.oneCell' = true := by obtain ⟨_, _, _, h⟩ := hS3'.1.slice; rw [h]; rfl
  have o2 : ts3.oneCell' = true := by obtain ⟨_, _, _, h⟩ := hS3'.2.slice; rw [h]; rfl
  simp only [go_sem, ↓reduceIte, Nat.reduceEqDiff, Nat.reduceAdd, Nat.reduceMul, Nat.reduceLT, Nat.reduceLeDiff, Int.reduceLT, Int.reduceLE, Int.reduceNeg, Int.reduceAdd, Int.reduceSub, Int.reduceMul, Int.reduceToNat, Int.reduceEq, Int.reduceNe, Int.cast_ofNat_Int, Int.natCast_one, Int.natCast_zero, Int.natCast_add, reduceCtorEq, Lin.cells, k8, ka, kb, k6, o1, o2, look_set k8l, eq_false (show ¬ σ.length = σ.length + 3 by omega), eq_false (show ¬ σ.length + 1 = σ.length + 3 by omega), eq_false (show ¬ σ.length + 2 = σ.length + 3 by omega), hw3]
  refine (f105_ok X l3 ns3 ts3 (a.num + s * b.num) b.minus (-s) (σ.length + 4) (ρ3.set (σ.length + 3) (some ⟨[ns3, ts3, .int .i64 (a.num + s * b.num)], true, 0⟩)) ⟨hS3'.1.set (by omega), hS3'.2.set (by omega)⟩ (by omega) (fun x hx => by have := s3 x hx; omega) (by omega)).mono ?_
  rintro _ ρ4 ⟨⟨ns4, ts4, rfl, hS4⟩, hp4⟩
  generalize hl4 : withL l3 b.minus (-s) = l4 at *
  have hS4' : SumV (σ.length + 4) ρ4 l4 ns4 ts4 := ⟨hS4.1.lower (by rw [List.length_set]; omega), hS4.2.lower (by rw [List.length_set]; omega)⟩
  replace ka := look_prefix hp4 ((look_set_ne (by omega)).trans ka)
  replace kb := look_prefix hp4 ((look_set_ne (by omega)).trans kb)
  replace k6 := look_prefix hp4 ((look_set_ne (by omega)).trans k6)
  replace k8 := look_prefix hp4 (show look (ρ3.set (σ.length + 3) (some ⟨[ns3, ts3, .int .i64 (a.num + s * b.num)], true, 0⟩)) (σ.length + 3) = some _ by rw [look_set k8l, if_pos rfl])
  replace k8l := look_lt k8
  replace hP : σ <+: ρ4 := (prefix_set hP (by omega)).trans hp4
  clear hS4 hp4 o1 o2
  have o1 : ns4.oneCell' = true := by obtain ⟨_, _, _, h⟩ := hS4'.1.slice; rw [h]; rfl
  have o2 : ts4.oneCell' = true := by obtain ⟨_, _, _, h⟩ := hS4'.2.slice; rw [h]; rfl
  simp only [go_sem, ↓reduceIte, Nat.reduceEqDiff, Nat.reduceAdd, Nat.reduceMul, Nat.reduceLT, Nat.reduceLeDiff, Int.reduceLT, Int.reduceLE, Int.reduceNeg, Int.reduceAdd, Int.reduceSub, Int.reduceMul, Int.reduceToNat, Int.reduceEq, Int.reduceNe, Int.cast_ofNat_Int, Int.natCast_one, Int.natCast_zero, Int.natCast_add, reduceCtorEq, Lin.cells, k8, ka, kb, k6, o1, o2, look_set k8l]
  refine (f106_ok X l4 ns4 ts4 (a.num + s * b.num) (σ.length + 4) (ρ4.set (σ.length + 3) (some ⟨[ns4, ts4, .int .i64 (a.num + s * b.num)], true, 0⟩)) ⟨hS4'.1.set (by omega), hS4'.2.set (by omega)⟩ (by omega)).mono ?_
  rintro _ ρ5 ⟨rfl, hp5⟩
  replace k6 := look_prefix hp5 ((look_set_ne (by omega)).trans k6)
  have k6l := look_lt k6
  simp only [go_sem, ↓reduceIte, Nat.reduceEqDiff, Nat.reduceAdd, Nat.reduceMul, Nat.reduceLT, Nat.reduceLeDiff, Int.reduceLT, Int.reduceLE, Int.reduceNeg, Int.reduceAdd, Int.reduceSub, Int.reduceMul, Int.reduceToNat, Int.reduceEq, Int.reduceNe, Int.cast_ofNat_Int, Int.natCast_one, Int.natCast_zero, Int.natCast_add, reduceCtorEq, Lin.cells, k6, look_set k6l]
  exact ⟨by rw [Option.isSome_map], prefix_set ((prefix_set hP (by omega)).trans hp5) (by omega)⟩
end Go.Proofs.YtkgdkommahgakaaDoor.Abs

/- The reference's value of a node (f56). -/
namespace Go.Proofs.YtkgdkommahgakaaDoor.Abs
open Go Go.RowKit Gram
set_option linter.unusedVariables false
set_option linter.unusedSimpArgs false
set_option maxRecDepth 100000

theorem xor_all (n : Int) (h : -9223372036854775808 ≤ n ∧ n ≤ 9223372036854775807) : Go.bits .xor .i64 (-1) n = -n - 1 := by
  show IntKind.i64.wrap ((BitVec.ofInt 64 (-1) ^^^ BitVec.ofInt 64 n).toNat : Int) = _
  have e : BitVec.ofInt 64 (-1) = BitVec.allOnes 64 := by decide
  rw [e, BitVec.allOnes_xor, BitVec.toNat_not, BitVec.toNat_ofInt, IntKind.wrap_i64]
  have : ((2 ^ 64 : Nat) : Int) = 18446744073709551616 := by decide
  omega
/-- The first symbol of a name: its value. -/
def findS (name : List UInt8) : List Sy → Lin
  | [] => ⟨name, [], 0⟩
  | y :: l => if y.name = name then y.lin else findS name l
theorem find_idx (name : List UInt8) : ∀ S : List Sy, (if 0 ≤ idx (S.map (·.name)) name then (S[(idx (S.map (·.name)) name).toNat]?.map (·.lin)).getD Lin.zero else ⟨name, [], 0⟩) = findS name S
  | [] => by simp [idx, findS]
  | y :: l => by
    have ih := find_idx name l
    unfold findS
    rw [← ih]
    simp only [List.map_cons, idx]
    by_cases h : y.name = name
    · simp [h]
    · rw [if_neg h, if_neg h]
      have hge := idx_ge (l.map (·.name)) name
      by_cases h2 : idx (l.map (·.name)) name = -1
      · rw [if_pos h2, if_neg (by omega), if_neg (by omega)]
      · rw [if_neg h2, if_pos (by omega), if_pos (by omega)]
        obtain ⟨j, hj⟩ := Int.eq_ofNat_of_zero_le (show 0 ≤ idx (l.map (·.name)) name by omega)
        rw [hj]
        rw [show ((j : Int) + 1).toNat = j + 1 by omega, Int.toNat_natCast, List.getElem?_cons_succ]
theorem codeOf_in {n : Int} (h : -1099511627776 ≤ n ∧ n ≤ 1099511627776) : codeOf true 0 n = 0 := by
  unfold codeOf
  rw [if_neg (by simp), if_neg (by omega)]
theorem codeOf_out {n : Int} (h : ¬ (-1099511627776 ≤ n ∧ n ≤ 1099511627776)) : codeOf true 0 n = 10 := by
  unfold codeOf
  rw [if_neg (by simp), if_pos ⟨rfl, by omega⟩]
def NVal (v : Value) (r0 : Lin × Int) : Prop := ∃ (r : Lin) (c : Int), v = .tuple #[.agg r.cells.toArray, .int .i64 c] ∧ c = r0.2 ∧ (c = 0 → r = r0.1)
set_option maxHeartbeats 8000000 in
theorem f56_ok (X : Ext) (E : List Nd) (S : List Sy) (V : List Lin) (x : Nd) (n c : Nat) (ow : Bool) (sz : Nat) (nv sv : Value) (σ : Heap) (hl : look σ n = some ⟨E.flatMap Nd.cells, ow, sz⟩) (hx : E[V.length]? = some x) (hV : VV σ V nv) (hS : SB σ S sv) (hSl : S.length ≤ 8000) (hEl : E.length ≤ 60)
    (hxe : nodeErr x V.length = 0) (hVs : ∀ v ∈ V, v.small ∧ v.good) (hSs : ∀ y ∈ S, symErr y = 0) :
    CW Tryd.prog X 56 [.slice (some ⟨n, 0, none⟩) E.length c, .int .i64 V.length, nv, sv] σ fun v σ' => NVal v (nodeVal x V S) ∧ σ <+: σ' := by
  refine cw_in Tryd.func56 rfl Tryd.ntmps56 (rs := [.cell 8 40, .tmp 9]) rfl (by kernel_rfl) (by exact Nat.le_of_ble_eq_true rfl) ?_
  have hn := look_lt hl
  have hel := Nd.len E
  have hvl := Lin.len V
  have hiE := (List.getElem?_eq_some_iff.1 hx).1
  obtain ⟨n1, n2, n3, n4, n5⟩ := nodeErr_zero hxe
  have hib : (V.length : Int) < (E.length : Int) := by omega
  by_cases k1 : x.kind = 1
  · have e : nodeVal x V S = (⟨[], [], x.value⟩, codeOf true 0 x.value) := by rw [nodeVal, rawVal, if_pos k1]
    rw [e]
    have hv := n2 k1
    simp only [go_sem, ↓reduceIte, Nat.reduceEqDiff, Nat.reduceAdd, Nat.reduceMul, Nat.reduceLT, Nat.reduceLeDiff, Int.reduceLT, Int.reduceLE, Int.reduceNeg, Int.reduceAdd, Int.reduceSub, Int.reduceMul, Int.reduceToNat, Int.reduceEq, Int.reduceNe, Int.cast_ofNat_Int, Int.natCast_one, Int.natCast_zero, Int.natCast_add, reduceCtorEq, hib, look_app_lt hn, hl, Nd.take hx, hel, show V.length * 5 + 5 ≤ E.length * 5 by omega, Nd.cells, eq_true k1]
    refine (f22_ok X x.value _ _ _).mono ?_
    rintro _ _ ⟨rfl, rfl⟩
    simp only [go_sem, ↓reduceIte, Nat.reduceEqDiff, Nat.reduceAdd, Nat.reduceMul, Nat.reduceLT, Nat.reduceLeDiff, Int.reduceLT, Int.reduceLE, Int.reduceNeg, Int.reduceAdd, Int.reduceSub, Int.reduceMul, Int.reduceToNat, Int.reduceEq, Int.reduceNe, Int.cast_ofNat_Int, Int.natCast_one, Int.natCast_zero, Int.natCast_add, reduceCtorEq, eq_true (show -1099511627776 ≤ x.value ∧ x.value ≤ 1099511627776 by omega)]
    exact ⟨⟨⟨[], [], x.value⟩, 0, rfl, (codeOf_in (by omega)).symm, fun _ => rfl⟩, List.prefix_append _ _⟩
  by_cases k2 : x.kind = 2
  · have e : nodeVal x V S = (findS x.name S, codeOf true 0 (findS x.name S).num) := by rw [nodeVal, rawVal, if_neg k1, if_pos k2, find_idx]
    rw [e]
    have hw0 : IntKind.i64.wrap ((S.length : Int) - 1) = (S.length : Int) - 1 := wrap64 (by omega)
    rcases hS with ⟨rfl, rfl⟩ | ⟨m, d, ow2, sz2, rfl, hS⟩
    · simp only [go_sem, ↓reduceIte, Nat.reduceEqDiff, Nat.reduceAdd, Nat.reduceMul, Nat.reduceLT, Nat.reduceLeDiff, Int.reduceLT, Int.reduceLE, Int.reduceNeg, Int.reduceAdd, Int.reduceSub, Int.reduceMul, Int.reduceToNat, Int.reduceEq, Int.reduceNe, Int.cast_ofNat_Int, Int.natCast_one, Int.natCast_zero, Int.natCast_add, reduceCtorEq, hib, look_app_lt hn, hl, Nd.take hx, hel, show V.length * 5 + 5 ≤ E.length * 5 by omega, Nd.cells, eq_false k1, eq_true k2, show IntKind.i64.wrap (0 - 1) = -1 by decide]
      refine LW_unroll ?_
      simp only [go_sem, ↓reduceIte, Nat.reduceEqDiff, Nat.reduceAdd, Nat.reduceMul, Nat.reduceLT, Nat.reduceLeDiff, Int.reduceLT, Int.reduceLE, Int.reduceNeg, Int.reduceAdd, Int.reduceSub, Int.reduceMul, Int.reduceToNat, Int.reduceEq, Int.reduceNe, Int.cast_ofNat_Int, Int.natCast_one, Int.natCast_zero, Int.natCast_add, reduceCtorEq]
      refine (f22_ok X 0 _ _ _).mono ?_
      rintro _ _ ⟨rfl, rfl⟩
      simp only [go_sem, ↓reduceIte, Nat.reduceEqDiff, Nat.reduceAdd, Nat.reduceMul, Nat.reduceLT, Nat.reduceLeDiff, Int.reduceLT, Int.reduceLE, Int.reduceNeg, Int.reduceAdd, Int.reduceSub, Int.reduceMul, Int.reduceToNat, Int.reduceEq, Int.reduceNe, Int.cast_ofNat_Int, Int.natCast_one, Int.natCast_zero, Int.natCast_add, reduceCtorEq, eq_true (show -1099511627776 ≤ (0 : Int) ∧ (0 : Int) ≤ 1099511627776 by omega)]
      exact ⟨⟨⟨x.name, [], 0⟩, 0, rfl, rfl, fun _ => rfl⟩, List.prefix_append _ _⟩
    · simp only [go_sem, ↓reduceIte, Nat.reduceEqDiff, Nat.reduceAdd, Nat.reduceMul, Nat.reduceLT, Nat.reduceLeDiff, Int.reduceLT, Int.reduceLE, Int.reduceNeg, Int.reduceAdd, Int.reduceSub, Int.reduceMul, Int.reduceToNat, Int.reduceEq, Int.reduceNe, Int.cast_ofNat_Int, Int.natCast_one, Int.natCast_zero, Int.natCast_add, reduceCtorEq, hib, look_app_lt hn, hl, Nd.take hx, hel, show V.length * 5 + 5 ≤ E.length * 5 by omega, Nd.cells, eq_false k1, eq_true k2, hw0]
      refine LW_run (fun k T ρ => k ≤ S.length ∧ ρ = σ ++ [some ⟨[.string (str []), .string (str []), .int .i64 0], true, 0⟩, some ⟨x.cells, true, 0⟩, some ⟨(findS x.name (S.drop k)).cells, true, 0⟩] ∧ T 3 = .slice (some ⟨m, 0, none⟩) S.length d ∧ T 8 = .pointer (some ⟨σ.length, 0, none⟩) ∧ T 10 = .pointer (some ⟨σ.length + 1, 0, none⟩) ∧ T 11 = .pointer (some ⟨σ.length + 2, 0, none⟩) ∧ T 12 = .bool true ∧ T 13 = .int .i64 0 ∧ T 14 = .int .i64 ((k : Int) - 1)) S.length
        ⟨Nat.le_refl _, by rw [List.drop_eq_nil_of_le (Nat.le_refl _)]; rfl, rfl, rfl, rfl, rfl, rfl, rfl, rfl⟩ ?_
      rintro k T _ ⟨hk, rfl, t3, t8, t10, t11, t12, t13, t14⟩
      by_cases hk0 : k = 0
      · subst hk0
        rw [List.drop_zero]
        simp only [go_sem, ↓reduceIte, Nat.reduceEqDiff, Nat.reduceAdd, Nat.reduceMul, Nat.reduceLT, Nat.reduceLeDiff, Int.reduceLT, Int.reduceLE, Int.reduceNeg, Int.reduceAdd, Int.reduceSub, Int.reduceMul, Int.reduceToNat, Int.reduceEq, Int.reduceNe, Int.cast_ofNat_Int, Int.natCast_one, Int.natCast_zero, Int.natCast_add, reduceCtorEq, t3, t8, t10, t11, t12, t13, t14, Lin.cells, eq_false (show ¬ (0 : Int) ≤ ((0 : Nat) : Int) - 1 by omega)]
        refine (f22_ok X (findS x.name S).num _ _ _).mono ?_
        rintro _ _ ⟨rfl, rfl⟩
        by_cases hr : -1099511627776 ≤ (findS x.name S).num ∧ (findS x.name S).num ≤ 1099511627776
        · simp only [go_sem, ↓reduceIte, Nat.reduceEqDiff, Nat.reduceAdd, Nat.reduceMul, Nat.reduceLT, Nat.reduceLeDiff, Int.reduceLT, Int.reduceLE, Int.reduceNeg, Int.reduceAdd, Int.reduceSub, Int.reduceMul, Int.reduceToNat, Int.reduceEq, Int.reduceNe, Int.cast_ofNat_Int, Int.natCast_one, Int.natCast_zero, Int.natCast_add, reduceCtorEq, t3, t8, t10, t11, t12, t13, t14, Lin.cells, eq_true hr]
          exact ⟨⟨findS x.name S, 0, rfl, (codeOf_in hr).symm, fun _ => rfl⟩, List.prefix_append _ _⟩
        · simp only [go_sem, ↓reduceIte, Nat.reduceEqDiff, Nat.reduceAdd, Nat.reduceMul, Nat.reduceLT, Nat.reduceLeDiff, Int.reduceLT, Int.reduceLE, Int.reduceNeg, Int.reduceAdd, Int.reduceSub, Int.reduceMul, Int.reduceToNat, Int.reduceEq, Int.reduceNe, Int.cast_ofNat_Int, Int.natCast_one, Int.natCast_zero, Int.natCast_add, reduceCtorEq, t3, t8, t10, t11, t12, t13, t14, Lin.cells, eq_false hr]
          exact ⟨⟨findS x.name S, 10, rfl, (codeOf_out hr).symm, fun h => by omega⟩, List.prefix_append _ _⟩
      skip
      obtain ⟨j, rfl⟩ : ∃ j, k = j + 1 := ⟨k - 1, by omega⟩
      obtain ⟨y, hy⟩ : ∃ y, S[j]? = some y := ⟨_, List.getElem?_eq_getElem (by omega)⟩
      have hml := look_lt hS
      have hsl := Sy.len S
      have hc0 : (S.flatMap Sy.cells)[j * 4]? = some (.string (str y.name)) := cell_at Sy.cells 4 (fun _ => rfl) hy (k := 0) (by omega)
      have hd1 := Sy.drop1 hy
      have hjw : ((j + 1 : Nat) : Int) - 1 = (j : Int) := by omega
      have hjS : (j : Int) < (S.length : Int) := by omega
      have hw : IntKind.i64.wrap ((j : Int) - 1) = (j : Int) - 1 := wrap64 (by omega)
      have hdj : findS x.name (S.drop j) = if y.name = x.name then y.lin else findS x.name (S.drop (j + 1)) := by rw [drop_at hy, findS]
      rw [hjw] at t14
      by_cases he : y.name = x.name
      · rw [if_pos he] at hdj
        simp only [go_sem, ↓reduceIte, Nat.reduceEqDiff, Nat.reduceAdd, Nat.reduceMul, Nat.reduceLT, Nat.reduceLeDiff, Int.reduceLT, Int.reduceLE, Int.reduceNeg, Int.reduceAdd, Int.reduceSub, Int.reduceMul, Int.reduceToNat, Int.reduceEq, Int.reduceNe, Int.cast_ofNat_Int, Int.natCast_one, Int.natCast_zero, Int.natCast_add, reduceCtorEq, t3, t8, t10, t11, t12, t13, t14, hjS, look_app_lt hml, hS, hc0, hd1, hsl, show j * 4 + 1 + 3 ≤ S.length * 4 by omega, Nd.cells, Lin.cells, eq_true he, hw]
        refine ⟨j, by omega, by omega, ?_⟩
        rw [hdj]
        (repeat' (first | exact rfl | apply And.intro))
      · rw [if_neg he] at hdj
        simp only [go_sem, ↓reduceIte, Nat.reduceEqDiff, Nat.reduceAdd, Nat.reduceMul, Nat.reduceLT, Nat.reduceLeDiff, Int.reduceLT, Int.reduceLE, Int.reduceNeg, Int.reduceAdd, Int.reduceSub, Int.reduceMul, Int.reduceToNat, Int.reduceEq, Int.reduceNe, Int.cast_ofNat_Int, Int.natCast_one, Int.natCast_zero, Int.natCast_add, reduceCtorEq, t3, t8, t10, t11, t12, t13, t14, hjS, look_app_lt hml, hS, hc0, hd1, hsl, show j * 4 + 1 + 3 ≤ S.length * 4 by omega, Nd.cells, Lin.cells, eq_false he, hw]
        refine ⟨j, by omega, by omega, ?_⟩
        rw [hdj]
        (repeat' (first | exact rfl | apply And.intro))
  obtain ⟨hl0, hl1⟩ := n4 (by omega)
  obtain ⟨l, hlq⟩ := Int.eq_ofNat_of_zero_le hl0
  have hll : l < V.length := by omega
  obtain ⟨a, ha⟩ : ∃ a, V[l]? = some a := ⟨_, List.getElem?_eq_getElem hll⟩
  have hA : argA x V = a := argA_of (by omega) hlq ha
  obtain ⟨has, hag⟩ := hVs a (List.mem_of_getElem? ha)
  have hta := Lin.take ha
  rcases hV with ⟨rfl, _⟩ | ⟨q, cq, rfl, hpos, hq⟩
  · simp at hll
  have hqn := look_lt hq
  have hli : (l : Int) < (V.length : Int) := by omega
  have hlb : l * 3 + 3 ≤ V.length * 3 := by omega
  by_cases k3 : x.kind = 3
  · have e : nodeVal x V S = ((addL Lin.zero a (-1)).getD Lin.zero, codeOf (addL Lin.zero a (-1)).isSome 0 ((addL Lin.zero a (-1)).getD Lin.zero).num) := by rw [nodeVal, rawVal, if_neg k1, if_neg k2, if_pos k3, hA]
    rw [e]
    simp only [go_sem, ↓reduceIte, Nat.reduceEqDiff, Nat.reduceAdd, Nat.reduceMul, Nat.reduceLT, Nat.reduceLeDiff, Int.reduceLT, Int.reduceLE, Int.reduceNeg, Int.reduceAdd, Int.reduceSub, Int.reduceMul, Int.reduceToNat, Int.reduceEq, Int.reduceNe, Int.cast_ofNat_Int, Int.natCast_one, Int.natCast_zero, Int.natCast_add, reduceCtorEq, hib, look_app_lt hn, hl, Nd.take hx, hel, show V.length * 5 + 5 ≤ E.length * 5 by omega, Nd.cells, k1, k2, k3, hlq, hli, look_app_lt hqn, hq, hta, hvl, hlb]
    refine (f87_ok X Lin.zero a (-1) (.inr rfl) zero_small has _).mono ?_
    rintro _ ρ ⟨rfl, hp⟩
    have h8 := look_prefix hp (show look _ σ.length = some _ by rw [look_app_new, look_zero])
    have h11 := look_prefix hp (show look _ (σ.length + 2) = some _ by rw [look_app_add]; rfl)
    have h8l := look_lt h8
    have h11l := look_lt h11
    have hP : σ <+: ρ := (List.prefix_append _ _).trans hp
    rw [plus_neg zero_good hag]
    generalize (addL Lin.zero a (-1)).getD Lin.zero = r
    cases (addL Lin.zero a (-1)).isSome with
    | false =>
      simp only [go_sem, ↓reduceIte, Nat.reduceEqDiff, Nat.reduceAdd, Nat.reduceMul, Nat.reduceLT, Nat.reduceLeDiff, Int.reduceLT, Int.reduceLE, Int.reduceNeg, Int.reduceAdd, Int.reduceSub, Int.reduceMul, Int.reduceToNat, Int.reduceEq, Int.reduceNe, Int.cast_ofNat_Int, Int.natCast_one, Int.natCast_zero, Int.natCast_add, reduceCtorEq, Lin.cells, h8, h11, look_set h11l, lss h11l h8l, eq_false (show ¬ σ.length = σ.length + 2 by omega)]
      exact ⟨⟨Lin.zero, 8, rfl, rfl, fun h => by omega⟩, prefix_set (prefix_set hP (by omega)) (Nat.le_refl _)⟩
    | true =>
      simp only [go_sem, ↓reduceIte, Nat.reduceEqDiff, Nat.reduceAdd, Nat.reduceMul, Nat.reduceLT, Nat.reduceLeDiff, Int.reduceLT, Int.reduceLE, Int.reduceNeg, Int.reduceAdd, Int.reduceSub, Int.reduceMul, Int.reduceToNat, Int.reduceEq, Int.reduceNe, Int.cast_ofNat_Int, Int.natCast_one, Int.natCast_zero, Int.natCast_add, reduceCtorEq, Lin.cells, h8, h11, look_set h11l]
      refine (f22_ok X r.num _ _ _).mono ?_
      rintro _ _ ⟨rfl, rfl⟩
      by_cases hr : -1099511627776 ≤ r.num ∧ r.num ≤ 1099511627776
      · simp only [go_sem, ↓reduceIte, Nat.reduceEqDiff, Nat.reduceAdd, Nat.reduceMul, Nat.reduceLT, Nat.reduceLeDiff, Int.reduceLT, Int.reduceLE, Int.reduceNeg, Int.reduceAdd, Int.reduceSub, Int.reduceMul, Int.reduceToNat, Int.reduceEq, Int.reduceNe, Int.cast_ofNat_Int, Int.natCast_one, Int.natCast_zero, Int.natCast_add, reduceCtorEq, Lin.cells, h8, h11, look_set h11l, lss h11l h8l, eq_true hr, eq_false (show ¬ σ.length = σ.length + 2 by omega)]
        exact ⟨⟨r, 0, rfl, (codeOf_in hr).symm, fun _ => rfl⟩, prefix_set (prefix_set hP (by omega)) (Nat.le_refl _)⟩
      · simp only [go_sem, ↓reduceIte, Nat.reduceEqDiff, Nat.reduceAdd, Nat.reduceMul, Nat.reduceLT, Nat.reduceLeDiff, Int.reduceLT, Int.reduceLE, Int.reduceNeg, Int.reduceAdd, Int.reduceSub, Int.reduceMul, Int.reduceToNat, Int.reduceEq, Int.reduceNe, Int.cast_ofNat_Int, Int.natCast_one, Int.natCast_zero, Int.natCast_add, reduceCtorEq, Lin.cells, h8, h11, look_set h11l, lss h11l h8l, eq_false hr, eq_false (show ¬ σ.length = σ.length + 2 by omega)]
        exact ⟨⟨r, 10, rfl, (codeOf_out hr).symm, fun h => by omega⟩, prefix_set (prefix_set hP (by omega)) (Nat.le_refl _)⟩
  by_cases k4 : x.kind = 4
  · have e : nodeVal x V S = (⟨[], [], Go.bits .xor .i64 (-1) a.num⟩, codeOf a.flat 0 (Go.bits .xor .i64 (-1) a.num)) := by rw [nodeVal, rawVal, if_neg k1, if_neg k2, if_neg k3, if_neg (by omega), if_neg (by omega), if_pos k4, hA]
    obtain ⟨_, _, b1, b2⟩ := has
    rw [e, xor_all _ (by omega)]
    have hw1 : IntKind.i64.wrap (0 - a.num) = -a.num := by rw [wrap64 (by omega)]; omega
    have hw2 : IntKind.i64.wrap (-a.num - 1) = -a.num - 1 := wrap64 (by omega)
    have hk5 : ¬ x.kind = 5 := by omega
    have hk6 : ¬ x.kind = 6 := by omega
    by_cases f1 : a.sym = []
    · by_cases f2 : a.minus = []
      · have hf : a.flat = true := by simp [Lin.flat, f1, f2]
        rw [hf]
        simp only [go_sem, ↓reduceIte, Nat.reduceEqDiff, Nat.reduceAdd, Nat.reduceMul, Nat.reduceLT, Nat.reduceLeDiff, Int.reduceLT, Int.reduceLE, Int.reduceNeg, Int.reduceAdd, Int.reduceSub, Int.reduceMul, Int.reduceToNat, Int.reduceEq, Int.reduceNe, Int.cast_ofNat_Int, Int.natCast_one, Int.natCast_zero, Int.natCast_add, reduceCtorEq, hib, look_app_lt hn, hl, Nd.take hx, hel, show V.length * 5 + 5 ≤ E.length * 5 by omega, Nd.cells, k1, k2, k3, k4, hlq, hli, look_app_lt hqn, hq, hta, hvl, hlb, Lin.cells, eq_true f1, eq_true f2, hw1, hw2]
        refine (f22_ok X (-a.num - 1) _ _ _).mono ?_
        rintro _ _ ⟨rfl, rfl⟩
        by_cases hr : -1099511627776 ≤ -a.num - 1 ∧ -a.num - 1 ≤ 1099511627776
        · simp only [go_sem, ↓reduceIte, Nat.reduceEqDiff, Nat.reduceAdd, Nat.reduceMul, Nat.reduceLT, Nat.reduceLeDiff, Int.reduceLT, Int.reduceLE, Int.reduceNeg, Int.reduceAdd, Int.reduceSub, Int.reduceMul, Int.reduceToNat, Int.reduceEq, Int.reduceNe, Int.cast_ofNat_Int, Int.natCast_one, Int.natCast_zero, Int.natCast_add, reduceCtorEq, Lin.cells, eq_true hr, k4]
          exact ⟨⟨⟨[], [], -a.num - 1⟩, 0, rfl, (codeOf_in hr).symm, fun _ => rfl⟩, List.prefix_append _ _⟩
        · simp only [go_sem, ↓reduceIte, Nat.reduceEqDiff, Nat.reduceAdd, Nat.reduceMul, Nat.reduceLT, Nat.reduceLeDiff, Int.reduceLT, Int.reduceLE, Int.reduceNeg, Int.reduceAdd, Int.reduceSub, Int.reduceMul, Int.reduceToNat, Int.reduceEq, Int.reduceNe, Int.cast_ofNat_Int, Int.natCast_one, Int.natCast_zero, Int.natCast_add, reduceCtorEq, Lin.cells, eq_false hr, k4]
          exact ⟨⟨⟨[], [], -a.num - 1⟩, 10, rfl, (codeOf_out hr).symm, fun h => by omega⟩, List.prefix_append _ _⟩
      · have hf : a.flat = false := by simp [Lin.flat, f1, f2]
        rw [hf]
        simp only [go_sem, ↓reduceIte, Nat.reduceEqDiff, Nat.reduceAdd, Nat.reduceMul, Nat.reduceLT, Nat.reduceLeDiff, Int.reduceLT, Int.reduceLE, Int.reduceNeg, Int.reduceAdd, Int.reduceSub, Int.reduceMul, Int.reduceToNat, Int.reduceEq, Int.reduceNe, Int.cast_ofNat_Int, Int.natCast_one, Int.natCast_zero, Int.natCast_add, reduceCtorEq, hib, look_app_lt hn, hl, Nd.take hx, hel, show V.length * 5 + 5 ≤ E.length * 5 by omega, Nd.cells, k1, k2, k3, k4, hlq, hli, look_app_lt hqn, hq, hta, hvl, hlb, Lin.cells, eq_true f1, eq_false f2]
        exact ⟨⟨Lin.zero, 8, rfl, rfl, fun h => by omega⟩, List.prefix_append _ _⟩
    · have hf : a.flat = false := by simp [Lin.flat, f1]
      rw [hf]
      simp only [go_sem, ↓reduceIte, Nat.reduceEqDiff, Nat.reduceAdd, Nat.reduceMul, Nat.reduceLT, Nat.reduceLeDiff, Int.reduceLT, Int.reduceLE, Int.reduceNeg, Int.reduceAdd, Int.reduceSub, Int.reduceMul, Int.reduceToNat, Int.reduceEq, Int.reduceNe, Int.cast_ofNat_Int, Int.natCast_one, Int.natCast_zero, Int.natCast_add, reduceCtorEq, hib, look_app_lt hn, hl, Nd.take hx, hel, show V.length * 5 + 5 ≤ E.length * 5 by omega, Nd.cells, k1, k2, k3, k4, hlq, hli, look_app_lt hqn, hq, hta, hvl, hlb, Lin.cells, eq_false f1]
      exact ⟨⟨Lin.zero, 8, rfl, rfl, fun h => by omega⟩, List.prefix_append _ _⟩
  obtain ⟨hr0, hr1⟩ := n5 (by omega)
  obtain ⟨r, hrq⟩ := Int.eq_ofNat_of_zero_le hr0
  have hrl : r < V.length := by omega
  obtain ⟨b, hb⟩ : ∃ b, V[r]? = some b := ⟨_, List.getElem?_eq_getElem hrl⟩
  have hB : argB x V = b := argB_of (by omega) hrq hb
  obtain ⟨hbs, hbg⟩ := hVs b (List.mem_of_getElem? hb)
  have htb := Lin.take hb
  have hri : (r : Int) < (V.length : Int) := by omega
  have hrb : r * 3 + 3 ≤ V.length * 3 := by omega
  by_cases k5 : x.kind = 5
  · have e : nodeVal x V S = ((addL a b 1).getD Lin.zero, codeOf (addL a b 1).isSome 0 ((addL a b 1).getD Lin.zero).num) := by rw [nodeVal, rawVal, if_neg k1, if_neg k2, if_neg k3, if_pos k5, hA, hB]
    rw [e]
    simp only [go_sem, ↓reduceIte, Nat.reduceEqDiff, Nat.reduceAdd, Nat.reduceMul, Nat.reduceLT, Nat.reduceLeDiff, Int.reduceLT, Int.reduceLE, Int.reduceNeg, Int.reduceAdd, Int.reduceSub, Int.reduceMul, Int.reduceToNat, Int.reduceEq, Int.reduceNe, Int.cast_ofNat_Int, Int.natCast_one, Int.natCast_zero, Int.natCast_add, reduceCtorEq, hib, look_app_lt hn, hl, Nd.take hx, hel, show V.length * 5 + 5 ≤ E.length * 5 by omega, Nd.cells, k1, k2, k3, k5, hlq, hli, hrq, hri, look_app_lt hqn, hq, hta, htb, hvl, hlb, hrb]
    refine (f87_ok X a b 1 (.inl rfl) has hbs _).mono ?_
    rintro _ ρ ⟨rfl, hp⟩
    have h8 := look_prefix hp (show look _ σ.length = some _ by rw [look_app_new, look_zero])
    have h11 := look_prefix hp (show look _ (σ.length + 2) = some _ by rw [look_app_add]; rfl)
    have h8l := look_lt h8
    have h11l := look_lt h11
    have hP : σ <+: ρ := (List.prefix_append _ _).trans hp
    rw [plus_one hag hbg]
    refine And.intro (quiet_pre hp) ?_
    generalize (addL a b 1).getD Lin.zero = r
    cases (addL a b 1).isSome with
    | false =>
      simp only [go_sem, ↓reduceIte, Nat.reduceEqDiff, Nat.reduceAdd, Nat.reduceMul, Nat.reduceLT, Nat.reduceLeDiff, Int.reduceLT, Int.reduceLE, Int.reduceNeg, Int.reduceAdd, Int.reduceSub, Int.reduceMul, Int.reduceToNat, Int.reduceEq, Int.reduceNe, Int.cast_ofNat_Int, Int.natCast_one, Int.natCast_zero, Int.natCast_add, reduceCtorEq, Lin.cells, h8, h11, look_set h11l, lss h11l h8l, eq_false (show ¬ σ.length = σ.length + 2 by omega)]
      refine And.intro (quiet_look (by kernel_rfl)) ?_
      try simp only [go_sem, ↓reduceIte, Nat.reduceEqDiff, Nat.reduceAdd, Nat.reduceMul, Nat.reduceLT, Nat.reduceLeDiff, Int.reduceLT, Int.reduceLE, Int.reduceNeg, Int.reduceAdd, Int.reduceSub, Int.reduceMul, Int.reduceToNat, Int.reduceEq, Int.reduceNe, Int.cast_ofNat_Int, Int.natCast_one, Int.natCast_zero, Int.natCast_add, reduceCtorEq, Lin.cells, h8, h11, look_set h11l, lss h11l h8l, eq_false (show ¬ σ.length = σ.length + 2 by omega)]
      exact ⟨⟨Lin.zero, 8, rfl, rfl, fun h => by omega⟩, prefix_set (prefix_set hP (by omega)) (Nat.le_refl _)⟩
    | true =>
      simp only [go_sem, ↓reduceIte, Nat.reduceEqDiff, Nat.reduceAdd, Nat.reduceMul, Nat.reduceLT, Nat.reduceLeDiff, Int.reduceLT, Int.reduceLE, Int.reduceNeg, Int.reduceAdd, Int.reduceSub, Int.reduceMul, Int.reduceToNat, Int.reduceEq, Int.reduceNe, Int.cast_ofNat_Int, Int.natCast_one, Int.natCast_zero, Int.natCast_add, reduceCtorEq, Lin.cells, h8, h11, look_set h11l]
      refine And.intro (quiet_look (by kernel_rfl)) ?_
      try simp only [go_sem, ↓reduceIte, Nat.reduceEqDiff, Nat.reduceAdd, Nat.reduceMul, Nat.reduceLT, Nat.reduceLeDiff, Int.reduceLT, Int.reduceLE, Int.reduceNeg, Int.reduceAdd, Int.reduceSub, Int.reduceMul, Int.reduceToNat, Int.reduceEq, Int.reduceNe, Int.cast_ofNat_Int, Int.natCast_one, Int.natCast_zero, Int.natCast_add, reduceCtorEq, Lin.cells, h8, h11, look_set h11l]
      refine (f22_ok X r.num _ _ _).mono ?_
      rintro _ _ ⟨rfl, rfl⟩
      by_cases hr : -1099511627776 ≤ r.num ∧ r.num ≤ 1099511627776
      · simp only [go_sem, ↓reduceIte, Nat.reduceEqDiff, Nat.reduceAdd, Nat.reduceMul, Nat.reduceLT, Nat.reduceLeDiff, Int.reduceLT, Int.reduceLE, Int.reduceNeg, Int.reduceAdd, Int.reduceSub, Int.reduceMul, Int.reduceToNat, Int.reduceEq, Int.reduceNe, Int.cast_ofNat_Int, Int.natCast_one, Int.natCast_zero, Int.natCast_add, reduceCtorEq, Lin.cells, h8, h11, look_set h11l, lss h11l h8l, eq_true hr, eq_false (show ¬ σ.length = σ.length + 2 by omega)]
        exact ⟨⟨r, 0, rfl, (codeOf_in hr).symm, fun _ => rfl⟩, prefix_set (prefix_set hP (by omega)) (Nat.le_refl _)⟩
      · simp only [go_sem, ↓reduceIte, Nat.reduceEqDiff, Nat.reduceAdd, Nat.reduceMul, Nat.reduceLT, Nat.reduceLeDiff, Int.reduceLT, Int.reduceLE, Int.reduceNeg, Int.reduceAdd, Int.reduceSub, Int.reduceMul, Int.reduceToNat, Int.reduceEq, Int.reduceNe, Int.cast_ofNat_Int, Int.natCast_one, Int.natCast_zero, Int.natCast_add, reduceCtorEq, Lin.cells, h8, h11, look_set h11l, lss h11l h8l, eq_false hr, eq_false (show ¬ σ.length = σ.length + 2 by omega)]
        exact ⟨⟨r, 10, rfl, (codeOf_out hr).symm, fun h => by omega⟩, prefix_set (prefix_set hP (by omega)) (Nat.le_refl _)⟩
  by_cases k6 : x.kind = 6
  · have e : nodeVal x V S = ((addL a b (-1)).getD Lin.zero, codeOf (addL a b (-1)).isSome 0 ((addL a b (-1)).getD Lin.zero).num) := by rw [nodeVal, rawVal, if_neg k1, if_neg k2, if_neg k3, if_neg k5, if_pos k6, hA, hB]
    rw [e]
    simp only [go_sem, ↓reduceIte, Nat.reduceEqDiff, Nat.reduceAdd, Nat.reduceMul, Nat.reduceLT, Nat.reduceLeDiff, Int.reduceLT, Int.reduceLE, Int.reduceNeg, Int.reduceAdd, Int.reduceSub, Int.reduceMul, Int.reduceToNat, Int.reduceEq, Int.reduceNe, Int.cast_ofNat_Int, Int.natCast_one, Int.natCast_zero, Int.natCast_add, reduceCtorEq, hib, look_app_lt hn, hl, Nd.take hx, hel, show V.length * 5 + 5 ≤ E.length * 5 by omega, Nd.cells, k1, k2, k3, k6, hlq, hli, hrq, hri, look_app_lt hqn, hq, hta, htb, hvl, hlb, hrb]
    refine (f87_ok X a b (-1) (.inr rfl) has hbs _).mono ?_
    rintro _ ρ ⟨rfl, hp⟩
    have h8 := look_prefix hp (show look _ σ.length = some _ by rw [look_app_new, look_zero])
    have h11 := look_prefix hp (show look _ (σ.length + 2) = some _ by rw [look_app_add]; rfl)
    have h8l := look_lt h8
    have h11l := look_lt h11
    have hP : σ <+: ρ := (List.prefix_append _ _).trans hp
    rw [plus_neg hag hbg]
    refine And.intro (quiet_pre hp) ?_
    generalize (addL a b (-1)).getD Lin.zero = r
    cases (addL a b (-1)).isSome with
    | false =>
      simp only [go_sem, ↓reduceIte, Nat.reduceEqDiff, Nat.reduceAdd, Nat.reduceMul, Nat.reduceLT, Nat.reduceLeDiff, Int.reduceLT, Int.reduceLE, Int.reduceNeg, Int.reduceAdd, Int.reduceSub, Int.reduceMul, Int.reduceToNat, Int.reduceEq, Int.reduceNe, Int.cast_ofNat_Int, Int.natCast_one, Int.natCast_zero, Int.natCast_add, reduceCtorEq, Lin.cells, h8, h11, look_set h11l, lss h11l h8l, eq_false (show ¬ σ.length = σ.length + 2 by omega)]
      refine And.intro (quiet_look (by kernel_rfl)) ?_
      try simp only [go_sem, ↓reduceIte, Nat.reduceEqDiff, Nat.reduceAdd, Nat.reduceMul, Nat.reduceLT, Nat.reduceLeDiff, Int.reduceLT, Int.reduceLE, Int.reduceNeg, Int.reduceAdd, Int.reduceSub, Int.reduceMul, Int.reduceToNat, Int.reduceEq, Int.reduceNe, Int.cast_ofNat_Int, Int.natCast_one, Int.natCast_zero, Int.natCast_add, reduceCtorEq, Lin.cells, h8, h11, look_set h11l, lss h11l h8l, eq_false (show ¬ σ.length = σ.length + 2 by omega)]
      exact ⟨⟨Lin.zero, 8, rfl, rfl, fun h => by omega⟩, prefix_set (prefix_set hP (by omega)) (Nat.le_refl _)⟩
    | true =>
      simp only [go_sem, ↓reduceIte, Nat.reduceEqDiff, Nat.reduceAdd, Nat.reduceMul, Nat.reduceLT, Nat.reduceLeDiff, Int.reduceLT, Int.reduceLE, Int.reduceNeg, Int.reduceAdd, Int.reduceSub, Int.reduceMul, Int.reduceToNat, Int.reduceEq, Int.reduceNe, Int.cast_ofNat_Int, Int.natCast_one, Int.natCast_zero, Int.natCast_add, reduceCtorEq, Lin.cells, h8, h11, look_set h11l]
      refine And.intro (quiet_look (by kernel_rfl)) ?_
      try simp only [go_sem, ↓reduceIte, Nat.reduceEqDiff, Nat.reduceAdd, Nat.reduceMul, Nat.reduceLT, Nat.reduceLeDiff, Int.reduceLT, Int.reduceLE, Int.reduceNeg, Int.reduceAdd, Int.reduceSub, Int.reduceMul, Int.reduceToNat, Int.reduceEq, Int.reduceNe, Int.cast_ofNat_Int, Int.natCast_one, Int.natCast_zero, Int.natCast_add, reduceCtorEq, Lin.cells, h8, h11, look_set h11l]
      refine (f22_ok X r.num _ _ _).mono ?_
      rintro _ _ ⟨rfl, rfl⟩
      by_cases hr : -1099511627776 ≤ r.num ∧ r.num ≤ 1099511627776
      · simp only [go_sem, ↓reduceIte, Nat.reduceEqDiff, Nat.reduceAdd, Nat.reduceMul, Nat.reduceLT, Nat.reduceLeDiff, Int.reduceLT, Int.reduceLE, Int.reduceNeg, Int.reduceAdd, Int.reduceSub, Int.reduceMul, Int.reduceToNat, Int.reduceEq, Int.reduceNe, Int.cast_ofNat_Int, Int.natCast_one, Int.natCast_zero, Int.natCast_add, reduceCtorEq, Lin.cells, h8, h11, look_set h11l, lss h11l h8l, eq_true hr, eq_false (show ¬ σ.length = σ.length + 2 by omega)]
        exact ⟨⟨r, 0, rfl, (codeOf_in hr).symm, fun _ => rfl⟩, prefix_set (prefix_set hP (by omega)) (Nat.le_refl _)⟩
      · simp only [go_sem, ↓reduceIte, Nat.reduceEqDiff, Nat.reduceAdd, Nat.reduceMul, Nat.reduceLT, Nat.reduceLeDiff, Int.reduceLT, Int.reduceLE, Int.reduceNeg, Int.reduceAdd, Int.reduceSub, Int.reduceMul, Int.reduceToNat, Int.reduceEq, Int.reduceNe, Int.cast_ofNat_Int, Int.natCast_one, Int.natCast_zero, Int.natCast_add, reduceCtorEq, Lin.cells, h8, h11, look_set h11l, lss h11l h8l, eq_false hr, eq_false (show ¬ σ.length = σ.length + 2 by omega)]
        exact ⟨⟨r, 10, rfl, (codeOf_out hr).symm, fun h => by omega⟩, prefix_set (prefix_set hP (by omega)) (Nat.le_refl _)⟩
  have e : nodeVal x V S = if (a.flat && b.flat) = true then (⟨[], [], (calcOf x.kind a.num b.num).1⟩, codeOf true (calcOf x.kind a.num b.num).2 (calcOf x.kind a.num b.num).1) else (Lin.zero, 8) := by
    unfold nodeVal
    rw [rawVal, if_neg k1, if_neg k2, if_neg k3, if_neg k5, if_neg k6, if_neg k4, hA, hB]
    split <;> rfl
  rw [e]
  by_cases f1 : a.sym = []
  · by_cases f2 : a.minus = []
    · by_cases f3 : b.sym = []
      · by_cases f4 : b.minus = []
        · rw [if_pos (by simp [Lin.flat, f1, f2, f3, f4])]
          obtain ⟨_, _, a1, a2⟩ := has
          obtain ⟨_, _, b1, b2⟩ := hbs
          simp only [go_sem, ↓reduceIte, Nat.reduceEqDiff, Nat.reduceAdd, Nat.reduceMul, Nat.reduceLT, Nat.reduceLeDiff, Int.reduceLT, Int.reduceLE, Int.reduceNeg, Int.reduceAdd, Int.reduceSub, Int.reduceMul, Int.reduceToNat, Int.reduceEq, Int.reduceNe, Int.cast_ofNat_Int, Int.natCast_one, Int.natCast_zero, Int.natCast_add, reduceCtorEq, hib, look_app_lt hn, hl, Nd.take hx, hel, show V.length * 5 + 5 ≤ E.length * 5 by omega, Nd.cells, k1, k2, k3, k4, k5, k6, hlq, hli, hrq, hri, look_app_lt hqn, hq, hta, htb, hvl, hlb, hrb, Lin.cells, eq_true f1, eq_true f2, eq_true f3, eq_true f4]
          refine (f88_ok X x.kind a.num b.num (by omega) ⟨a1, a2⟩ ⟨b1, b2⟩ _).mono ?_
          rintro _ _ ⟨⟨m, cd, rfl, hal1, hal2⟩, rfl⟩
          rw [← hal1]
          by_cases hcd : cd = 0
          · subst hcd
            simp only [go_sem, ↓reduceIte, Nat.reduceEqDiff, Nat.reduceAdd, Nat.reduceMul, Nat.reduceLT, Nat.reduceLeDiff, Int.reduceLT, Int.reduceLE, Int.reduceNeg, Int.reduceAdd, Int.reduceSub, Int.reduceMul, Int.reduceToNat, Int.reduceEq, Int.reduceNe, Int.cast_ofNat_Int, Int.natCast_one, Int.natCast_zero, Int.natCast_add, reduceCtorEq, Lin.cells]
            refine (f22_ok X m _ _ _).mono ?_
            rintro _ _ ⟨rfl, rfl⟩
            by_cases hr : -1099511627776 ≤ m ∧ m ≤ 1099511627776
            · have h0 := codeOf_in hr
              simp only [go_sem, ↓reduceIte, Nat.reduceEqDiff, Nat.reduceAdd, Nat.reduceMul, Nat.reduceLT, Nat.reduceLeDiff, Int.reduceLT, Int.reduceLE, Int.reduceNeg, Int.reduceAdd, Int.reduceSub, Int.reduceMul, Int.reduceToNat, Int.reduceEq, Int.reduceNe, Int.cast_ofNat_Int, Int.natCast_one, Int.natCast_zero, Int.natCast_add, reduceCtorEq, Lin.cells, eq_true hr]
              exact ⟨⟨⟨[], [], m⟩, 0, rfl, h0.symm, fun _ => by rw [hal2 h0]⟩, List.prefix_append _ _⟩
            · simp only [go_sem, ↓reduceIte, Nat.reduceEqDiff, Nat.reduceAdd, Nat.reduceMul, Nat.reduceLT, Nat.reduceLeDiff, Int.reduceLT, Int.reduceLE, Int.reduceNeg, Int.reduceAdd, Int.reduceSub, Int.reduceMul, Int.reduceToNat, Int.reduceEq, Int.reduceNe, Int.cast_ofNat_Int, Int.natCast_one, Int.natCast_zero, Int.natCast_add, reduceCtorEq, Lin.cells, eq_false hr]
              exact ⟨⟨⟨[], [], m⟩, 10, rfl, (codeOf_out hr).symm, fun h => by omega⟩, List.prefix_append _ _⟩
          · have hco : codeOf true cd m = cd := by unfold codeOf; rw [if_neg (by simp), if_neg (fun h => hcd h.1)]
            simp only [go_sem, ↓reduceIte, Nat.reduceEqDiff, Nat.reduceAdd, Nat.reduceMul, Nat.reduceLT, Nat.reduceLeDiff, Int.reduceLT, Int.reduceLE, Int.reduceNeg, Int.reduceAdd, Int.reduceSub, Int.reduceMul, Int.reduceToNat, Int.reduceEq, Int.reduceNe, Int.cast_ofNat_Int, Int.natCast_one, Int.natCast_zero, Int.natCast_add, reduceCtorEq, Lin.cells, eq_false hcd]
            exact ⟨⟨⟨[], [], m⟩, cd, rfl, hco.symm, fun h => absurd h hcd⟩, List.prefix_append _ _⟩
        · have hf : (a.flat && b.flat) = false := by simp [Lin.flat, f1, f2, f3, f4]
          rw [hf, if_neg (by simp)]
          simp only [go_sem, ↓reduceIte, Nat.reduceEqDiff, Nat.reduceAdd, Nat.reduceMul, Nat.reduceLT, Nat.reduceLeDiff, Int.reduceLT, Int.reduceLE, Int.reduceNeg, Int.reduceAdd, Int.reduceSub, Int.reduceMul, Int.reduceToNat, Int.reduceEq, Int.reduceNe, Int.cast_ofNat_Int, Int.natCast_one, Int.natCast_zero, Int.natCast_add, reduceCtorEq, hib, look_app_lt hn, hl, Nd.take hx, hel, show V.length * 5 + 5 ≤ E.length * 5 by omega, Nd.cells, k1, k2, k3, k4, k5, k6, hlq, hli, hrq, hri, look_app_lt hqn, hq, hta, htb, hvl, hlb, hrb, Lin.cells, eq_true f1, eq_true f2, eq_true f3, eq_false f4]
          exact ⟨⟨Lin.zero, 8, rfl, rfl, fun h => by omega⟩, List.prefix_append _ _⟩
      · have hf : (a.flat && b.flat) = false := by simp [Lin.flat, f1, f2, f3]
        rw [hf, if_neg (by simp)]
        simp only [go_sem, ↓reduceIte, Nat.reduceEqDiff, Nat.reduceAdd, Nat.reduceMul, Nat.reduceLT, Nat.reduceLeDiff, Int.reduceLT, Int.reduceLE, Int.reduceNeg, Int.reduceAdd, Int.reduceSub, Int.reduceMul, Int.reduceToNat, Int.reduceEq, Int.reduceNe, Int.cast_ofNat_Int, Int.natCast_one, Int.natCast_zero, Int.natCast_add, reduceCtorEq, hib, look_app_lt hn, hl, Nd.take hx, hel, show V.length * 5 + 5 ≤ E.length * 5 by omega, Nd.cells, k1, k2, k3, k4, k5, k6, hlq, hli, hrq, hri, look_app_lt hqn, hq, hta, htb, hvl, hlb, hrb, Lin.cells, eq_true f1, eq_true f2, eq_false f3]
        exact ⟨⟨Lin.zero, 8, rfl, rfl, fun h => by omega⟩, List.prefix_append _ _⟩
    · have hf : (a.flat && b.flat) = false := by simp [Lin.flat, f1, f2]
      rw [hf, if_neg (by simp)]
      simp only [go_sem, ↓reduceIte, Nat.reduceEqDiff, Nat.reduceAdd, Nat.reduceMul, Nat.reduceLT, Nat.reduceLeDiff, Int.reduceLT, Int.reduceLE, Int.reduceNeg, Int.reduceAdd, Int.reduceSub, Int.reduceMul, Int.reduceToNat, Int.reduceEq, Int.reduceNe, Int.cast_ofNat_Int, Int.natCast_one, Int.natCast_zero, Int.natCast_add, reduceCtorEq, hib, look_app_lt hn, hl, Nd.take hx, hel, show V.length * 5 + 5 ≤ E.length * 5 by omega, Nd.cells, k1, k2, k3, k4, k5, k6, hlq, hli, hrq, hri, look_app_lt hqn, hq, hta, htb, hvl, hlb, hrb, Lin.cells, eq_true f1, eq_false f2]
      exact ⟨⟨Lin.zero, 8, rfl, rfl, fun h => by omega⟩, List.prefix_append _ _⟩
  · have hf : (a.flat && b.flat) = false := by simp [Lin.flat, f1]
    rw [hf, if_neg (by simp)]
    simp only [go_sem, ↓reduceIte, Nat.reduceEqDiff, Nat.reduceAdd, Nat.reduceMul, Nat.reduceLT, Nat.reduceLeDiff, Int.reduceLT, Int.reduceLE, Int.reduceNeg, Int.reduceAdd, Int.reduceSub, Int.reduceMul, Int.reduceToNat, Int.reduceEq, Int.reduceNe, Int.cast_ofNat_Int, Int.natCast_one, Int.natCast_zero, Int.natCast_add, reduceCtorEq, hib, look_app_lt hn, hl, Nd.take hx, hel, show V.length * 5 + 5 ≤ E.length * 5 by omega, Nd.cells, k1, k2, k3, k4, k5, k6, hlq, hli, hrq, hri, look_app_lt hqn, hq, hta, htb, hvl, hlb, hrb, Lin.cells, eq_false f1]
    exact ⟨⟨Lin.zero, 8, rfl, rfl, fun h => by omega⟩, List.prefix_append _ _⟩
end Go.Proofs.YtkgdkommahgakaaDoor.Abs

/- The reference's value of an expression (f28), and the law function ExprValueMatchesSpec (f4). -/
namespace Go.Proofs.YtkgdkommahgakaaDoor.Abs
open Go Go.RowKit Gram
set_option linter.unusedVariables false
set_option linter.unusedSimpArgs false
set_option maxRecDepth 100000

set_option maxHeartbeats 8000000 in
theorem f28_ok (X : Ext) (E : List Nd) (S : List Sy) (n c : Nat) (ow : Bool) (sz : Nat) (sv : Value) (σ : Heap) (hl : look σ n = some ⟨E.flatMap Nd.cells, ow, sz⟩) (hS : SB σ S sv) (hSl : S.length ≤ 8000) (hE0 : 1 ≤ E.length) (hEl : E.length ≤ 60)
    (hE : ∀ (j : Nat) (x : Nd), E[j]? = some x → nodeErr x j = 0) (hSs : ∀ y ∈ S, symErr y = 0) :
    CW Tryd.prog X 28 [.slice (some ⟨n, 0, none⟩) E.length c, sv] σ fun v σ' => v = .tuple #[.agg (match evalL S E [] with | .inl _ => Lin.zero | .inr V => (V.getLast?).getD Lin.zero).cells.toArray, faultV (match evalL S E [] with | .inl f => f | .inr _ => (0, 0))] ∧ σ <+: σ' := by
  refine cw_in Tryd.func28 rfl Tryd.ntmps28 (rs := [.cell 4 40, .cell 5 26]) rfl (by kernel_rfl) (by exact Nat.le_of_ble_eq_true rfl) ?_
  have hn := look_lt hl
  simp only [go_sem, ↓reduceIte, Nat.reduceEqDiff, Nat.reduceAdd, Nat.reduceMul, Nat.reduceLT, Nat.reduceLeDiff, Int.reduceLT, Int.reduceLE, Int.reduceNeg, Int.reduceAdd, Int.reduceSub, Int.reduceMul, Int.reduceToNat, Int.reduceEq, Int.reduceNe, Int.cast_ofNat_Int, Int.natCast_one, Int.natCast_zero, Int.natCast_add, reduceCtorEq]
  have ha4 : look (σ ++ [some ⟨[.string ⟨#[]⟩, .string ⟨#[]⟩, .int .i64 0], true, 0⟩, some ⟨[.int .i64 0, .int .i64 0], true, 0⟩]) σ.length = some ⟨[.string ⟨#[]⟩, .string ⟨#[]⟩, .int .i64 0], true, 0⟩ := by rw [look_app_new, look_zero]
  have ha5 : look (σ ++ [some ⟨[.string ⟨#[]⟩, .string ⟨#[]⟩, .int .i64 0], true, 0⟩, some ⟨[.int .i64 0, .int .i64 0], true, 0⟩]) (σ.length + 1) = some ⟨[.int .i64 0, .int .i64 0], true, 0⟩ := by rw [look_app_add]; rfl
  have hpre : σ <+: σ ++ [some (⟨[.string ⟨#[]⟩, .string ⟨#[]⟩, .int .i64 0], true, 0⟩ : Blk), some ⟨[.int .i64 0, .int .i64 0], true, 0⟩] := List.prefix_append _ _
  have hlen1 : (σ ++ [some (⟨[.string ⟨#[]⟩, .string ⟨#[]⟩, .int .i64 0], true, 0⟩ : Blk), some ⟨[.int .i64 0, .int .i64 0], true, 0⟩]).length = σ.length + 2 := by simp
  generalize σ ++ [some (⟨[.string ⟨#[]⟩, .string ⟨#[]⟩, .int .i64 0], true, 0⟩ : Blk), some ⟨[.int .i64 0, .int .i64 0], true, 0⟩] = σ1 at *
  refine LW_run (fun k T ρ => ∃ (i : Nat) (V : List Lin) (nv : Value), i + k = E.length ∧ σ1 <+: ρ ∧ T 0 = .slice (some ⟨n, 0, none⟩) E.length c ∧ T 1 = sv ∧ T 4 = .pointer (some ⟨σ.length, 0, none⟩) ∧ T 5 = .pointer (some ⟨σ.length + 1, 0, none⟩) ∧ T 6 = nv ∧ T 7 = .int .i64 i
      ∧ VB σ1.length ρ V nv ∧ V.length = i ∧ (∀ v ∈ V, v.small ∧ v.good) ∧ evalL S E [] = evalL S (E.drop i) V) E.length
    ⟨0, [], _, by simp, List.prefix_rfl, rfl, rfl, rfl, by simp [putT], rfl, rfl, .inl ⟨rfl, rfl⟩, rfl, by simp, rfl⟩ ?_
  rintro k T ρ ⟨i, V, nv, hk, hp, t0, t1, t4, t5, t6, t7, hV, hVl, hVs, hev⟩
  have hl2 := look_prefix (hpre.trans hp) hl
  have hS2 := hS.mono (hpre.trans hp)
  have h4 := look_prefix hp ha4
  have h5 := look_prefix hp ha5
  have h4l := look_lt h4
  have h5l := look_lt h5
  simp only [go_sem, ↓reduceIte, Nat.reduceEqDiff, Nat.reduceAdd, Nat.reduceMul, Nat.reduceLT, Nat.reduceLeDiff, Int.reduceLT, Int.reduceLE, Int.reduceNeg, Int.reduceAdd, Int.reduceSub, Int.reduceMul, Int.reduceToNat, Int.reduceEq, Int.reduceNe, Int.cast_ofNat_Int, Int.natCast_one, Int.natCast_zero, Int.natCast_add, reduceCtorEq, t0, t1, t4, t5, t6, t7]
  refine fork_dec (fun _ => ?_) (fun _ => ?_)
  · rename_i hi
    obtain ⟨x, hx⟩ : ∃ x, E[i]? = some x := ⟨_, List.getElem?_eq_getElem (by omega)⟩
    have hxe := hE i x hx
    have hw : IntKind.i64.wrap ((i : Int) + 1) = (i : Int) + 1 := wrap64 (by omega)
    rw [drop_at hx, evalL] at hev
    subst hVl
    simp only [go_sem, ↓reduceIte, Nat.reduceEqDiff, Nat.reduceAdd, Nat.reduceMul, Nat.reduceLT, Nat.reduceLeDiff, Int.reduceLT, Int.reduceLE, Int.reduceNeg, Int.reduceAdd, Int.reduceSub, Int.reduceMul, Int.reduceToNat, Int.reduceEq, Int.reduceNe, Int.cast_ofNat_Int, Int.natCast_one, Int.natCast_zero, Int.natCast_add, reduceCtorEq, t0, t1, t4, t5, t6, t7]
    refine (f56_ok X E S V x n c ow sz nv sv _ hl2 hx hV.vv hS2 hSl hEl hxe hVs hSs).mono ?_
    rintro _ ρ1 ⟨⟨r, cd, rfl, hcd, hr⟩, hp1⟩
    by_cases hc : cd = 0
    · have hrv := hr hc
      have hc0 : (nodeVal x V S).2 = 0 := by rw [← hcd]; exact hc
      rw [if_neg (by simp [hc0]), ← hrv] at hev
      have hns := nodeVal_small hxe hSs (fun v hv => (hVs v hv).1) hc0
      have hng := node_good hSs (fun v hv => (hVs v hv).2) hc0
      rw [← hrv] at hns hng
      obtain ⟨nv', ρ', hap, hp', hV'⟩ := app_lin (σ := ρ1 ++ [some ⟨r.cells, true, 0⟩]) ((hp.trans hp1).trans (List.prefix_append _ _)) (hV.mono (hp1.trans (List.prefix_append _ _))) r (by omega)
      simp only [Lin.cells, List.append_assoc, List.cons_append, List.nil_append, List.length_append, List.length_cons, List.length_nil] at hap
      simp only [go_sem, ↓reduceIte, Nat.reduceEqDiff, Nat.reduceAdd, Nat.reduceMul, Nat.reduceLT, Nat.reduceLeDiff, Int.reduceLT, Int.reduceLE, Int.reduceNeg, Int.reduceAdd, Int.reduceSub, Int.reduceMul, Int.reduceToNat, Int.reduceEq, Int.reduceNe, Int.cast_ofNat_Int, Int.natCast_one, Int.natCast_zero, Int.natCast_add, reduceCtorEq, t0, t1, t4, t5, t6, t7, hc, hw, Lin.cells, hap]
      refine ⟨k - 1, by omega, V.length + 1, V ++ [r], nv', by omega, hp', ?_⟩
      (repeat' (first | exact rfl | apply And.intro))
      · exact hV'
      · simp
      · intro v hv
        rcases List.mem_append.1 hv with hv | hv
        · exact hVs v hv
        · simp at hv; subst hv; exact ⟨hns, hng⟩
      · exact hev
    · have hc0 : (nodeVal x V S).2 ≠ 0 := by rw [← hcd]; exact hc
      rw [if_pos hc0, ← hcd] at hev
      rw [hev]
      have h4a := look_prefix hp1 h4
      have h5a := look_prefix hp1 h5
      have h4al := look_lt h4a
      have h5al := look_lt h5a
      simp only [go_sem, ↓reduceIte, Nat.reduceEqDiff, Nat.reduceAdd, Nat.reduceMul, Nat.reduceLT, Nat.reduceLeDiff, Int.reduceLT, Int.reduceLE, Int.reduceNeg, Int.reduceAdd, Int.reduceSub, Int.reduceMul, Int.reduceToNat, Int.reduceEq, Int.reduceNe, Int.cast_ofNat_Int, Int.natCast_one, Int.natCast_zero, Int.natCast_add, reduceCtorEq, t0, t1, t4, t5, t6, t7, eq_false hc, Lin.cells]
      refine (f20_ok X cd V.length _).mono ?_
      rintro _ ρ2 ⟨rfl, hp2⟩
      have h4b := look_prefix ((List.prefix_append _ _).trans hp2) h4a
      have h5b := look_prefix ((List.prefix_append _ _).trans hp2) h5a
      have h4bl := look_lt h4b
      have h5bl := look_lt h5b
      simp only [go_sem, ↓reduceIte, Nat.reduceEqDiff, Nat.reduceAdd, Nat.reduceMul, Nat.reduceLT, Nat.reduceLeDiff, Int.reduceLT, Int.reduceLE, Int.reduceNeg, Int.reduceAdd, Int.reduceSub, Int.reduceMul, Int.reduceToNat, Int.reduceEq, Int.reduceNe, Int.cast_ofNat_Int, Int.natCast_one, Int.natCast_zero, Int.natCast_add, reduceCtorEq, t0, t1, t4, t5, t6, t7, h4b, look_set h4bl, lss h4bl h5bl, h5b, eq_false (show ¬ σ.length + 1 = σ.length by omega), eq_false (show ¬ σ.length = σ.length + 1 by omega)]
      refine ⟨rfl, prefix_set (prefix_set (((hpre.trans hp).trans hp1).trans ((List.prefix_append _ _).trans hp2)) (Nat.le_refl _)) (by omega)⟩
  · rename_i hi
    have hii : i = E.length := by omega
    subst hii
    rw [List.drop_eq_nil_of_le (Nat.le_refl _), evalL] at hev
    rw [hev]
    obtain ⟨w, hw⟩ : ∃ w, V[V.length - 1]? = some w := ⟨_, List.getElem?_eq_getElem (by omega)⟩
    have hlast : V.getLast? = some w := by rw [List.getLast?_eq_getElem?]; exact hw
    rcases hV with ⟨rfl, _⟩ | ⟨q, cq, rfl, hq1, hq2, hq3⟩
    · simp at hw
    have hvl := Lin.len V
    have hql := look_lt hq3
    have hw1 : IntKind.i64.wrap ((V.length : Int) - 1) = ((V.length - 1 : Nat) : Int) := by rw [wrap64 (by omega)]; omega
    have hV1 : ((V.length - 1 : Nat) : Int) < (V.length : Int) := by omega
    have hV3 : (V.length - 1) * 3 + 3 ≤ V.length * 3 := by omega
    have htk := Lin.take hw
    generalize V.length - 1 = v1 at *
    simp only [go_sem, ↓reduceIte, Nat.reduceEqDiff, Nat.reduceAdd, Nat.reduceMul, Nat.reduceLT, Nat.reduceLeDiff, Int.reduceLT, Int.reduceLE, Int.reduceNeg, Int.reduceAdd, Int.reduceSub, Int.reduceMul, Int.reduceToNat, Int.reduceEq, Int.reduceNe, Int.cast_ofNat_Int, Int.natCast_one, Int.natCast_zero, Int.natCast_add, reduceCtorEq, t0, t1, t4, t5, t6, t7, hw1, hV1, hq3, htk, hvl, hV3, Lin.cells, h4, hlast, Option.getD_some, look_set h4l, lss h4l h5l, h5, eq_false (show ¬ σ.length + 1 = σ.length by omega), eq_false (show ¬ σ.length = σ.length + 1 by omega)]
    exact ⟨rfl, prefix_set (prefix_set (hpre.trans hp) (Nat.le_refl _)) (by omega)⟩
set_option maxHeartbeats 4000000 in
theorem f4_ok (E : List Nd) (S : List Sy) (n c m d sz sz2 : Nat) (σ : Heap) (hl : look σ n = some ⟨E.flatMap Nd.cells, false, sz⟩) (hm : look σ m = some ⟨S.flatMap Sy.cells, false, sz2⟩) (hG : GL σ) (ht : ∀ x ∈ E, x.name.length ≤ 140737488351232) (hz : E.length ≤ 140737488351232)
    (hts : ∀ x ∈ S, x.few) (hzs : S.length ≤ 140737488351232) : CW Tryd.prog XL 4 [.slice (some ⟨n, 0, none⟩) E.length c, .slice (some ⟨m, 0, none⟩) S.length d] σ fun v σ' => v = .bool true ∧ σ <+: σ' := by
  refine cw_in Tryd.func4 rfl Tryd.ntmps4 (rs := [.tmp 4]) rfl (by kernel_rfl) (by exact Nat.le_of_ble_eq_true rfl) ?_
  have hSB : SB σ S (.slice (some ⟨m, 0, none⟩) S.length d) := .inr ⟨m, d, false, sz2, rfl, hm⟩
  simp only [go_sem, ↓reduceIte, Nat.reduceEqDiff, Nat.reduceAdd, Nat.reduceMul, Nat.reduceLT, Nat.reduceLeDiff, Int.reduceLT, Int.reduceLE, Int.reduceNeg, Int.reduceAdd, Int.reduceSub, Int.reduceMul, Int.reduceToNat, Int.reduceEq, Int.reduceNe, Int.cast_ofNat_Int, Int.natCast_one, Int.natCast_zero, Int.natCast_add, reduceCtorEq]
  refine (f17_ok σ hG).mono ?_
  rintro _ ρ0 ⟨rfl, hp0⟩
  simp only [go_sem, ↓reduceIte, Nat.reduceEqDiff, Nat.reduceAdd, Nat.reduceMul, Nat.reduceLT, Nat.reduceLeDiff, Int.reduceLT, Int.reduceLE, Int.reduceNeg, Int.reduceAdd, Int.reduceSub, Int.reduceMul, Int.reduceToNat, Int.reduceEq, Int.reduceNe, Int.cast_ofNat_Int, Int.natCast_one, Int.natCast_zero, Int.natCast_add, reduceCtorEq]
  refine (f24_ok XL E S n c (.slice (some ⟨m, 0, none⟩) S.length d) false sz ρ0 (look_prefix hp0 hl) (hSB.mono hp0) ht hts hz hzs E.length rfl).mono ?_
  rintro _ ρ1 ⟨rfl, hp1⟩
  have hP1 := hp0.trans hp1
  simp only [go_sem, ↓reduceIte, Nat.reduceEqDiff, Nat.reduceAdd, Nat.reduceMul, Nat.reduceLT, Nat.reduceLeDiff, Int.reduceLT, Int.reduceLE, Int.reduceNeg, Int.reduceAdd, Int.reduceSub, Int.reduceMul, Int.reduceToNat, Int.reduceEq, Int.reduceNe, Int.cast_ofNat_Int, Int.natCast_one, Int.natCast_zero, Int.natCast_add, reduceCtorEq, faultV, Lin.cells]
  refine (f25_ok XL E n c false sz _ (look_prefix (hP1.trans (List.prefix_append _ _)) hl) ht hz).mono ?_
  rintro _ ρ2 ⟨rfl, hp2⟩
  have h5 := look_prefix hp2 (show look _ ρ1.length = some _ by rw [look_app_new, look_zero])
  have h6 := look_prefix hp2 (show look _ (ρ1.length + 1) = some _ by rw [look_app_add]; rfl)
  have hP2 := (hP1.trans (List.prefix_append _ _)).trans hp2
  simp only [go_sem, ↓reduceIte, Nat.reduceEqDiff, Nat.reduceAdd, Nat.reduceMul, Nat.reduceLT, Nat.reduceLeDiff, Int.reduceLT, Int.reduceLE, Int.reduceNeg, Int.reduceAdd, Int.reduceSub, Int.reduceMul, Int.reduceToNat, Int.reduceEq, Int.reduceNe, Int.cast_ofNat_Int, Int.natCast_one, Int.natCast_zero, Int.natCast_add, reduceCtorEq, faultV, Lin.cells]
  refine (f26_ok XL E n c false sz _ (look_prefix (hP2.trans (List.prefix_append _ _)) hl) ht E.length rfl hz).mono ?_
  rintro _ ρ3 ⟨rfl, hp3⟩
  have h53 := look_prefix ((List.prefix_append _ _).trans hp3) h5
  have h63 := look_prefix ((List.prefix_append _ _).trans hp3) h6
  have h7 := look_prefix hp3 (show look _ ρ2.length = some _ by rw [look_app_new, look_zero])
  have hP3 := (hP2.trans (List.prefix_append _ _)).trans hp3
  have h7l := look_lt h7
  have h6l := look_lt h6
  have hs7 : σ.length ≤ ρ2.length := hP2.length_le
  have n57 : ρ1.length + 2 ≤ ρ2.length := by have := hp2.length_le; simpa using this
  clear hp2 hp1 hp0 h5 h6
  generalize ρ2.length = p7 at *
  generalize ρ1.length = p5 at *
  simp only [go_sem, ↓reduceIte, Nat.reduceEqDiff, Nat.reduceAdd, Nat.reduceMul, Nat.reduceLT, Nat.reduceLeDiff, Int.reduceLT, Int.reduceLE, Int.reduceNeg, Int.reduceAdd, Int.reduceSub, Int.reduceMul, Int.reduceToNat, Int.reduceEq, Int.reduceNe, Int.cast_ofNat_Int, Int.natCast_one, Int.natCast_zero, Int.natCast_add, reduceCtorEq, faultV, Lin.cells, h7]
  refine And.intro (quiet_pre hp3) ?_
  clear hp3
  by_cases he : (exprFault E).1 = 0
  case neg =>
    have hv : valueOf E S = (Lin.zero, exprFault E) := by
      have h1 : valFault E S = exprFault E := by rw [valFault, if_neg he]
      rw [valueOf, h1, if_pos he]
    rw [hv] at h53 h63
    simp only [go_sem, ↓reduceIte, Nat.reduceEqDiff, Nat.reduceAdd, Nat.reduceMul, Nat.reduceLT, Nat.reduceLeDiff, Int.reduceLT, Int.reduceLE, Int.reduceNeg, Int.reduceAdd, Int.reduceSub, Int.reduceMul, Int.reduceToNat, Int.reduceEq, Int.reduceNe, Int.cast_ofNat_Int, Int.natCast_one, Int.natCast_zero, Int.natCast_add, reduceCtorEq, faultV, Lin.cells, Lin.zero, h53, h63, h7, eq_false he]
    exact hP3
  obtain ⟨he0, he1, he2, he3⟩ := exprFault_zero he
  simp only [go_sem, ↓reduceIte, Nat.reduceEqDiff, Nat.reduceAdd, Nat.reduceMul, Nat.reduceLT, Nat.reduceLeDiff, Int.reduceLT, Int.reduceLE, Int.reduceNeg, Int.reduceAdd, Int.reduceSub, Int.reduceMul, Int.reduceToNat, Int.reduceEq, Int.reduceNe, Int.cast_ofNat_Int, Int.natCast_one, Int.natCast_zero, Int.natCast_add, reduceCtorEq, faultV, Lin.cells, h53, h63, h7, eq_true he]
  refine (f27_ok XL S m d false sz2 _ (look_prefix hP3 hm) hts hzs).mono ?_
  rintro _ ρ4 ⟨rfl, hp4⟩
  have h54 := look_prefix hp4 h53
  have h64 := look_prefix hp4 h63
  have h74 := look_prefix hp4 h7
  have h7l4 := look_lt h74
  have hP4 := hP3.trans hp4
  have hle := hP3.length_le
  have n5 : ¬ p5 = p7 := by omega
  have n6 : ¬ p5 + 1 = p7 := by omega
  by_cases hs : (symsFault S).1 = 0
  case neg =>
    have hv : valueOf E S = (Lin.zero, symsFault S) := by
      have h1 : valFault E S = symsFault S := by rw [valFault, if_pos he]
      rw [valueOf, h1, if_pos hs]
    rw [hv] at h54 h64
    simp only [go_sem, ↓reduceIte, Nat.reduceEqDiff, Nat.reduceAdd, Nat.reduceMul, Nat.reduceLT, Nat.reduceLeDiff, Int.reduceLT, Int.reduceLE, Int.reduceNeg, Int.reduceAdd, Int.reduceSub, Int.reduceMul, Int.reduceToNat, Int.reduceEq, Int.reduceNe, Int.cast_ofNat_Int, Int.natCast_one, Int.natCast_zero, Int.natCast_add, reduceCtorEq, faultV, Lin.cells, Lin.zero, h74, look_set h7l4, h54, h64, n5, n6, eq_false hs]
    exact prefix_set hP4 hs7
  obtain ⟨hs0, hs1, hs2⟩ := symsFault_zero hs
  have hP5 : σ <+: ρ4.set p7 (some ⟨[.int .i64 (symsFault S).1, .int .i64 (symsFault S).2], true, 0⟩) := prefix_set hP4 hs7
  simp only [go_sem, ↓reduceIte, Nat.reduceEqDiff, Nat.reduceAdd, Nat.reduceMul, Nat.reduceLT, Nat.reduceLeDiff, Int.reduceLT, Int.reduceLE, Int.reduceNeg, Int.reduceAdd, Int.reduceSub, Int.reduceMul, Int.reduceToNat, Int.reduceEq, Int.reduceNe, Int.cast_ofNat_Int, Int.natCast_one, Int.natCast_zero, Int.natCast_add, reduceCtorEq, faultV, Lin.cells, Lin.zero, h74, look_set h7l4, h54, h64, n5, n6, eq_true hs]
  refine (f28_ok XL E S n c false sz (.slice (some ⟨m, 0, none⟩) S.length d) _ (look_prefix ?hpp hl) (hSB.mono ?hpp) hs1 he1 he2 he3 hs2).mono ?_
  case hpp => exact hP5
  rintro _ ρ5 ⟨rfl, hp5⟩
  have h55 := look_prefix hp5 ((look_set_ne n5).trans h54)
  have h65 := look_prefix hp5 ((look_set_ne n6).trans h64)
  have h75 := look_prefix hp5 (show look _ p7 = some _ by rw [look_set h7l4, if_pos rfl])
  have h75l := look_lt h75
  have hv : valueOf E S = ((match evalL S E [] with | .inl _ => Lin.zero | .inr V => (V.getLast?).getD Lin.zero), (match evalL S E [] with | .inl f => f | .inr _ => (0, 0))) := by
    have h1 : valFault E S = symsFault S := by rw [valFault, if_pos he]
    rw [valueOf, h1, if_neg (by simp [hs])]
    cases evalL S E [] <;> rfl
  rw [hv] at h55 h65
  have h55l := look_lt h55
  have h65l := look_lt h65
  simp only [go_sem, ↓reduceIte, Nat.reduceEqDiff, Nat.reduceAdd, Nat.reduceMul, Nat.reduceLT, Nat.reduceLeDiff, Int.reduceLT, Int.reduceLE, Int.reduceNeg, Int.reduceAdd, Int.reduceSub, Int.reduceMul, Int.reduceToNat, Int.reduceEq, Int.reduceNe, Int.cast_ofNat_Int, Int.natCast_one, Int.natCast_zero, Int.natCast_add, reduceCtorEq, faultV, Lin.cells, look_app_lt h75l, h75, h55, h65, n5, n6, set_app_lt h75l, lsa h75l h75l, lsa h75l h55l, lsa h75l h65l]
  exact (prefix_set (hP5.trans hp5) hs7).trans (List.prefix_append _ _)
end Go.Proofs.YtkgdkommahgakaaDoor.Abs
