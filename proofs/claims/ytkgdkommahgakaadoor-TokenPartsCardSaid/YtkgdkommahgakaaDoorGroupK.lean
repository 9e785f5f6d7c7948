/- Part GroupK of the proof: an abstract machine for the program's calls, and what functions do on it. It has no conditions. -/
import Derived.Test.YtkgdkommahgakaaDoorGroupG
import Derived.Test.YtkgdkommahgakaaDoorGroupJ
/- The reference's faults (f25 ExprFault, f27 NamedFault). -/
namespace Go.Proofs.YtkgdkommahgakaaDoor.Abs
open Go Go.RowKit Gram
set_option linter.unusedVariables false
set_option linter.unusedSimpArgs false
set_option maxRecDepth 100000

set_option maxHeartbeats 2000000 in
theorem f25_ok (X : Ext) (E : List Nd) (n c : Nat) (ow : Bool) (sz : Nat) (σ : Heap) (hl : look σ n = some ⟨E.flatMap Nd.cells, ow, sz⟩) (ht : ∀ x ∈ E, x.name.length ≤ 140737488351232) (hz : E.length ≤ 140737488351232) :
    CW Tryd.prog X 25 [.slice (some ⟨n, 0, none⟩) E.length c] σ fun v σ' => v = faultV (exprFault E) ∧ σ <+: σ' := by
  refine cw_in Tryd.func25 rfl Tryd.ntmps25 (rs := [.cell 2 26]) rfl (by kernel_rfl) (by exact Nat.le_of_ble_eq_true rfl) ?_
  have hn : n < σ.length := look_lt hl
  have hel := Nd.len E
  simp only [go_sem, ↓reduceIte, Nat.reduceEqDiff, Nat.reduceAdd, Nat.reduceMul, Nat.reduceLT, Nat.reduceLeDiff, Int.reduceLT, Int.reduceLE, Int.reduceNeg, Int.reduceAdd, Int.reduceSub, Int.reduceMul, Int.reduceToNat, Int.reduceEq, Int.reduceNe, Int.cast_ofNat_Int, Int.natCast_one, Int.natCast_zero, Int.natCast_add, reduceCtorEq]
  refine (f22_ok X E.length 1 60 _).mono ?_
  rintro _ _ ⟨rfl, rfl⟩
  by_cases h0 : E.length = 0 ∨ 60 < E.length
  · simp only [go_sem, ↓reduceIte, Nat.reduceEqDiff, Nat.reduceAdd, Nat.reduceMul, Nat.reduceLT, Nat.reduceLeDiff, Int.reduceLT, Int.reduceLE, Int.reduceNeg, Int.reduceAdd, Int.reduceSub, Int.reduceMul, Int.reduceToNat, Int.reduceEq, Int.reduceNe, Int.cast_ofNat_Int, Int.natCast_one, Int.natCast_zero, Int.natCast_add, reduceCtorEq, eq_false (show ¬ ((1 : Int) ≤ (E.length : Int) ∧ (E.length : Int) ≤ 60) by omega)]
    refine (f20_ok X 2 (-1) _).mono ?_
    rintro _ ρ ⟨rfl, hp⟩
    have h2 := look_prefix hp (show look (σ ++ [some ⟨[.int .i64 0, .int .i64 0], true, 0⟩]) σ.length = _ by rw [look_app_new, look_zero])
    simp only [go_sem, ↓reduceIte, Nat.reduceEqDiff, Nat.reduceAdd, Nat.reduceMul, Nat.reduceLT, Nat.reduceLeDiff, Int.reduceLT, Int.reduceLE, Int.reduceNeg, Int.reduceAdd, Int.reduceSub, Int.reduceMul, Int.reduceToNat, Int.reduceEq, Int.reduceNe, Int.cast_ofNat_Int, Int.natCast_one, Int.natCast_zero, Int.natCast_add, reduceCtorEq, look_set (look_lt h2), h2]
    rw [exprFault, if_pos h0]
    exact ⟨rfl, prefix_set ((List.prefix_append _ _).trans hp) (Nat.le_refl _)⟩
  · have he : exprFault E = firstE 0 E := by rw [exprFault, if_neg h0]
    rw [he]
    simp only [go_sem, ↓reduceIte, Nat.reduceEqDiff, Nat.reduceAdd, Nat.reduceMul, Nat.reduceLT, Nat.reduceLeDiff, Int.reduceLT, Int.reduceLE, Int.reduceNeg, Int.reduceAdd, Int.reduceSub, Int.reduceMul, Int.reduceToNat, Int.reduceEq, Int.reduceNe, Int.cast_ofNat_Int, Int.natCast_one, Int.natCast_zero, Int.natCast_add, reduceCtorEq, eq_true (show ((1 : Int) ≤ (E.length : Int) ∧ (E.length : Int) ≤ 60) by omega)]
    refine LW_run (fun k T ρ => ∃ (i : Nat), i + k = E.length ∧ σ ++ [some ⟨[.int .i64 0, .int .i64 0], true, 0⟩] <+: ρ ∧ T 0 = .slice (some ⟨n, 0, none⟩) E.length c ∧ T 2 = .pointer (some ⟨σ.length, 0, none⟩) ∧ T 3 = .int .i64 i ∧ firstE 0 E = firstE i (E.drop i)) E.length ⟨0, by simp, List.prefix_rfl, rfl, rfl, rfl, rfl⟩ ?_
    rintro k T ρ ⟨i, hk, hp, t0, t2, t3, hv⟩
    have hl1 := look_prefix ((List.prefix_append _ _).trans hp) hl
    have h2 := look_prefix hp (show look (σ ++ [some ⟨[.int .i64 0, .int .i64 0], true, 0⟩]) σ.length = _ by rw [look_app_new, look_zero])
    have hn1 := look_lt hl1
    have h2l := look_lt h2
    simp only [go_sem, ↓reduceIte, Nat.reduceEqDiff, Nat.reduceAdd, Nat.reduceMul, Nat.reduceLT, Nat.reduceLeDiff, Int.reduceLT, Int.reduceLE, Int.reduceNeg, Int.reduceAdd, Int.reduceSub, Int.reduceMul, Int.reduceToNat, Int.reduceEq, Int.reduceNe, Int.cast_ofNat_Int, Int.natCast_one, Int.natCast_zero, Int.natCast_add, reduceCtorEq, t0, t2, t3]
    refine fork_dec (fun _ => ?_) (fun _ => ?_)
    · rename_i hi
      obtain ⟨x, hx⟩ : ∃ x, E[i]? = some x := ⟨_, List.getElem?_eq_getElem (by omega)⟩
      have hw : IntKind.i64.wrap ((i : Int) + 1) = (i : Int) + 1 := wrap64 (by omega)
      have hw1 : IntKind.i64.wrap ((i : Int) - 1) = (i : Int) - 1 := wrap64 (by omega)
      have hnm := ht x (List.mem_of_getElem? hx)
      rw [drop_at hx, firstE] at hv
      simp only [go_sem, ↓reduceIte, Nat.reduceEqDiff, Nat.reduceAdd, Nat.reduceMul, Nat.reduceLT, Nat.reduceLeDiff, Int.reduceLT, Int.reduceLE, Int.reduceNeg, Int.reduceAdd, Int.reduceSub, Int.reduceMul, Int.reduceToNat, Int.reduceEq, Int.reduceNe, Int.cast_ofNat_Int, Int.natCast_one, Int.natCast_zero, Int.natCast_add, reduceCtorEq, t0, t2, t3, hi, hl1, Nd.take hx, hel, show i * 5 + 5 ≤ E.length * 5 by omega, Nd.cells]
      refine (f22_ok X x.kind 1 14 _).mono ?_
      rintro _ _ ⟨rfl, rfl⟩
      have bad : ∀ (e : Int) (ρ' : Heap), e ≠ 0 → nodeErr x i = e → firstE 0 E = (e, (i : Int)) := fun e ρ' h1 h2 => by rw [hv, h2, if_pos h1]
      have good : nodeErr x i = 0 → firstE 0 E = firstE (i + 1) (E.drop (i + 1)) := fun h2 => by rw [hv, h2, if_neg (by simp)]
      by_cases k1 : 1 ≤ x.kind ∧ x.kind ≤ 14
      case neg =>
        simp only [go_sem, ↓reduceIte, Nat.reduceEqDiff, Nat.reduceAdd, Nat.reduceMul, Nat.reduceLT, Nat.reduceLeDiff, Int.reduceLT, Int.reduceLE, Int.reduceNeg, Int.reduceAdd, Int.reduceSub, Int.reduceMul, Int.reduceToNat, Int.reduceEq, Int.reduceNe, Int.cast_ofNat_Int, Int.natCast_one, Int.natCast_zero, Int.natCast_add, reduceCtorEq, eq_false k1, t0, t2, t3]
        refine (f20_ok X 4 i _).mono ?_
        rintro _ ρ2 ⟨rfl, hp2⟩
        have h3 := look_prefix hp2 ((look_app_lt h2l).trans h2)
        simp only [go_sem, ↓reduceIte, Nat.reduceEqDiff, Nat.reduceAdd, Nat.reduceMul, Nat.reduceLT, Nat.reduceLeDiff, Int.reduceLT, Int.reduceLE, Int.reduceNeg, Int.reduceAdd, Int.reduceSub, Int.reduceMul, Int.reduceToNat, Int.reduceEq, Int.reduceNe, Int.cast_ofNat_Int, Int.natCast_one, Int.natCast_zero, Int.natCast_add, reduceCtorEq, t0, t2, t3, look_set (look_lt h3), h3]
        rw [bad 4 ρ (by omega) (by rw [nodeErr]; rw [if_pos (by omega)])]
        exact ⟨rfl, prefix_set ((List.prefix_append _ _).trans (hp.trans ((List.prefix_append _ _).trans hp2))) (Nat.le_refl _)⟩
      have ne1 : nodeErr x i = if x.kind = 1 ∧ (x.value < 0 ∨ 4294967296 ≤ x.value) then 3
        else if x.kind = 2 ∧ nameOk x.name = false then 12
        else if (2 < x.kind ∧ (x.left < 0 ∨ (i : Int) ≤ x.left)) ∨ (4 < x.kind ∧ (x.right < 0 ∨ (i : Int) ≤ x.right)) then 5 else 0 := by rw [nodeErr, if_neg (by omega)]
      rw [ne1] at bad good
      by_cases q1 : x.kind = 1
      · simp only [go_sem, ↓reduceIte, Nat.reduceEqDiff, Nat.reduceAdd, Nat.reduceMul, Nat.reduceLT, Nat.reduceLeDiff, Int.reduceLT, Int.reduceLE, Int.reduceNeg, Int.reduceAdd, Int.reduceSub, Int.reduceMul, Int.reduceToNat, Int.reduceEq, Int.reduceNe, Int.cast_ofNat_Int, Int.natCast_one, Int.natCast_zero, Int.natCast_add, reduceCtorEq, eq_true k1, t0, t2, t3, q1]
        refine (f22_ok X x.value 0 4294967295 _).mono ?_
        rintro _ _ ⟨rfl, rfl⟩
        by_cases q2 : 0 ≤ x.value ∧ x.value ≤ 4294967295
        · simp only [go_sem, ↓reduceIte, Nat.reduceEqDiff, Nat.reduceAdd, Nat.reduceMul, Nat.reduceLT, Nat.reduceLeDiff, Int.reduceLT, Int.reduceLE, Int.reduceNeg, Int.reduceAdd, Int.reduceSub, Int.reduceMul, Int.reduceToNat, Int.reduceEq, Int.reduceNe, Int.cast_ofNat_Int, Int.natCast_one, Int.natCast_zero, Int.natCast_add, reduceCtorEq, eq_true q2, t0, t2, t3, q1, hw]
          refine ⟨k - 1, by omega, i + 1, by omega, hp.trans (List.prefix_append _ _), ?_⟩
          (repeat' (first | exact rfl | apply And.intro))
          exact good (by rw [if_neg (by omega), if_neg (by omega), if_neg (by omega)])
        · simp only [go_sem, ↓reduceIte, Nat.reduceEqDiff, Nat.reduceAdd, Nat.reduceMul, Nat.reduceLT, Nat.reduceLeDiff, Int.reduceLT, Int.reduceLE, Int.reduceNeg, Int.reduceAdd, Int.reduceSub, Int.reduceMul, Int.reduceToNat, Int.reduceEq, Int.reduceNe, Int.cast_ofNat_Int, Int.natCast_one, Int.natCast_zero, Int.natCast_add, reduceCtorEq, eq_false q2, t0, t2, t3, q1]
          refine (f20_ok X 3 i _).mono ?_
          rintro _ ρ2 ⟨rfl, hp2⟩
          have h3 := look_prefix hp2 ((look_app_lt h2l).trans h2)
          simp only [go_sem, ↓reduceIte, Nat.reduceEqDiff, Nat.reduceAdd, Nat.reduceMul, Nat.reduceLT, Nat.reduceLeDiff, Int.reduceLT, Int.reduceLE, Int.reduceNeg, Int.reduceAdd, Int.reduceSub, Int.reduceMul, Int.reduceToNat, Int.reduceEq, Int.reduceNe, Int.cast_ofNat_Int, Int.natCast_one, Int.natCast_zero, Int.natCast_add, reduceCtorEq, t0, t2, t3, look_set (look_lt h3), h3]
          rw [bad 3 ρ (by omega) (by rw [if_pos (by omega)])]
          exact ⟨rfl, prefix_set ((List.prefix_append _ _).trans (hp.trans ((List.prefix_append _ _).trans hp2))) (Nat.le_refl _)⟩
      by_cases q2 : x.kind = 2
      · simp only [go_sem, ↓reduceIte, Nat.reduceEqDiff, Nat.reduceAdd, Nat.reduceMul, Nat.reduceLT, Nat.reduceLeDiff, Int.reduceLT, Int.reduceLE, Int.reduceNeg, Int.reduceAdd, Int.reduceSub, Int.reduceMul, Int.reduceToNat, Int.reduceEq, Int.reduceNe, Int.cast_ofNat_Int, Int.natCast_one, Int.natCast_zero, Int.natCast_add, reduceCtorEq, eq_true k1, t0, t2, t3, q2]
        refine (f54_ok X x.name hnm _).mono ?_
        rintro _ _ ⟨rfl, rfl⟩
        cases hnk : nameOk x.name with
        | false =>
          simp only [go_sem, ↓reduceIte, Nat.reduceEqDiff, Nat.reduceAdd, Nat.reduceMul, Nat.reduceLT, Nat.reduceLeDiff, Int.reduceLT, Int.reduceLE, Int.reduceNeg, Int.reduceAdd, Int.reduceSub, Int.reduceMul, Int.reduceToNat, Int.reduceEq, Int.reduceNe, Int.cast_ofNat_Int, Int.natCast_one, Int.natCast_zero, Int.natCast_add, reduceCtorEq, t0, t2, t3, q2]
          refine (f20_ok X 12 i _).mono ?_
          rintro _ ρ2 ⟨rfl, hp2⟩
          have h3 := look_prefix hp2 ((look_app_lt h2l).trans h2)
          simp only [go_sem, ↓reduceIte, Nat.reduceEqDiff, Nat.reduceAdd, Nat.reduceMul, Nat.reduceLT, Nat.reduceLeDiff, Int.reduceLT, Int.reduceLE, Int.reduceNeg, Int.reduceAdd, Int.reduceSub, Int.reduceMul, Int.reduceToNat, Int.reduceEq, Int.reduceNe, Int.cast_ofNat_Int, Int.natCast_one, Int.natCast_zero, Int.natCast_add, reduceCtorEq, t0, t2, t3, look_set (look_lt h3), h3]
          rw [bad 12 ρ (by omega) (by rw [if_neg (by omega), if_pos ⟨q2, hnk⟩])]
          exact ⟨rfl, prefix_set ((List.prefix_append _ _).trans (hp.trans ((List.prefix_append _ _).trans hp2))) (Nat.le_refl _)⟩
        | true =>
          have hnkn : ¬ (x.kind = 2 ∧ nameOk x.name = false) := fun h => by rw [hnk] at h; simp at h
          simp only [go_sem, ↓reduceIte, Nat.reduceEqDiff, Nat.reduceAdd, Nat.reduceMul, Nat.reduceLT, Nat.reduceLeDiff, Int.reduceLT, Int.reduceLE, Int.reduceNeg, Int.reduceAdd, Int.reduceSub, Int.reduceMul, Int.reduceToNat, Int.reduceEq, Int.reduceNe, Int.cast_ofNat_Int, Int.natCast_one, Int.natCast_zero, Int.natCast_add, reduceCtorEq, t0, t2, t3, q2, hw]
          refine ⟨k - 1, by omega, i + 1, by omega, hp.trans (List.prefix_append _ _), ?_⟩
          (repeat' (first | exact rfl | apply And.intro))
          exact good (by rw [if_neg (by omega), if_neg hnkn, if_neg (by omega)])
      · simp only [go_sem, ↓reduceIte, Nat.reduceEqDiff, Nat.reduceAdd, Nat.reduceMul, Nat.reduceLT, Nat.reduceLeDiff, Int.reduceLT, Int.reduceLE, Int.reduceNeg, Int.reduceAdd, Int.reduceSub, Int.reduceMul, Int.reduceToNat, Int.reduceEq, Int.reduceNe, Int.cast_ofNat_Int, Int.natCast_one, Int.natCast_zero, Int.natCast_add, reduceCtorEq, eq_true k1, t0, t2, t3, q1, q2, eq_true (show 3 ≤ x.kind by omega), hw1]
        refine (f22_ok X x.left 0 _ _).mono ?_
        rintro _ _ ⟨rfl, rfl⟩
        by_cases q3 : 0 ≤ x.left ∧ x.left ≤ (i : Int) - 1
        · by_cases q5 : 5 ≤ x.kind
          · simp only [go_sem, ↓reduceIte, Nat.reduceEqDiff, Nat.reduceAdd, Nat.reduceMul, Nat.reduceLT, Nat.reduceLeDiff, Int.reduceLT, Int.reduceLE, Int.reduceNeg, Int.reduceAdd, Int.reduceSub, Int.reduceMul, Int.reduceToNat, Int.reduceEq, Int.reduceNe, Int.cast_ofNat_Int, Int.natCast_one, Int.natCast_zero, Int.natCast_add, reduceCtorEq, eq_true q3, t0, t2, t3, q1, q2, q5, hw1]
            refine (f22_ok X x.right 0 _ _).mono ?_
            rintro _ _ ⟨rfl, rfl⟩
            by_cases q4 : 0 ≤ x.right ∧ x.right ≤ (i : Int) - 1
            · simp only [go_sem, ↓reduceIte, Nat.reduceEqDiff, Nat.reduceAdd, Nat.reduceMul, Nat.reduceLT, Nat.reduceLeDiff, Int.reduceLT, Int.reduceLE, Int.reduceNeg, Int.reduceAdd, Int.reduceSub, Int.reduceMul, Int.reduceToNat, Int.reduceEq, Int.reduceNe, Int.cast_ofNat_Int, Int.natCast_one, Int.natCast_zero, Int.natCast_add, reduceCtorEq, eq_true q4, t0, t2, t3, hw]
              refine ⟨k - 1, by omega, i + 1, by omega, hp.trans (List.prefix_append _ _), ?_⟩
              (repeat' (first | exact rfl | apply And.intro))
              exact good (by rw [if_neg (by omega), if_neg (fun h => q2 h.1), if_neg (by omega)])
            · simp only [go_sem, ↓reduceIte, Nat.reduceEqDiff, Nat.reduceAdd, Nat.reduceMul, Nat.reduceLT, Nat.reduceLeDiff, Int.reduceLT, Int.reduceLE, Int.reduceNeg, Int.reduceAdd, Int.reduceSub, Int.reduceMul, Int.reduceToNat, Int.reduceEq, Int.reduceNe, Int.cast_ofNat_Int, Int.natCast_one, Int.natCast_zero, Int.natCast_add, reduceCtorEq, eq_false q4, t0, t2, t3]
              refine (f20_ok X 5 i _).mono ?_
              rintro _ ρ2 ⟨rfl, hp2⟩
              have h3 := look_prefix hp2 ((look_app_lt h2l).trans h2)
              simp only [go_sem, ↓reduceIte, Nat.reduceEqDiff, Nat.reduceAdd, Nat.reduceMul, Nat.reduceLT, Nat.reduceLeDiff, Int.reduceLT, Int.reduceLE, Int.reduceNeg, Int.reduceAdd, Int.reduceSub, Int.reduceMul, Int.reduceToNat, Int.reduceEq, Int.reduceNe, Int.cast_ofNat_Int, Int.natCast_one, Int.natCast_zero, Int.natCast_add, reduceCtorEq, t0, t2, t3, look_set (look_lt h3), h3]
              rw [bad 5 ρ (by omega) (by rw [if_neg (by omega), if_neg (fun h => q2 h.1), if_pos (by omega)])]
              exact ⟨rfl, prefix_set ((List.prefix_append _ _).trans (hp.trans ((List.prefix_append _ _).trans hp2))) (Nat.le_refl _)⟩
          · simp only [go_sem, ↓reduceIte, Nat.reduceEqDiff, Nat.reduceAdd, Nat.reduceMul, Nat.reduceLT, Nat.reduceLeDiff, Int.reduceLT, Int.reduceLE, Int.reduceNeg, Int.reduceAdd, Int.reduceSub, Int.reduceMul, Int.reduceToNat, Int.reduceEq, Int.reduceNe, Int.cast_ofNat_Int, Int.natCast_one, Int.natCast_zero, Int.natCast_add, reduceCtorEq, eq_true q3, t0, t2, t3, q1, q2, q5, hw]
            refine ⟨k - 1, by omega, i + 1, by omega, hp.trans (List.prefix_append _ _), ?_⟩
            (repeat' (first | exact rfl | apply And.intro))
            exact good (by rw [if_neg (by omega), if_neg (fun h => q2 h.1), if_neg (by omega)])
        · simp only [go_sem, ↓reduceIte, Nat.reduceEqDiff, Nat.reduceAdd, Nat.reduceMul, Nat.reduceLT, Nat.reduceLeDiff, Int.reduceLT, Int.reduceLE, Int.reduceNeg, Int.reduceAdd, Int.reduceSub, Int.reduceMul, Int.reduceToNat, Int.reduceEq, Int.reduceNe, Int.cast_ofNat_Int, Int.natCast_one, Int.natCast_zero, Int.natCast_add, reduceCtorEq, eq_false q3, t0, t2, t3, q1, q2]
          refine (f20_ok X 5 i _).mono ?_
          rintro _ ρ2 ⟨rfl, hp2⟩
          have h3 := look_prefix hp2 ((look_app_lt h2l).trans h2)
          simp only [go_sem, ↓reduceIte, Nat.reduceEqDiff, Nat.reduceAdd, Nat.reduceMul, Nat.reduceLT, Nat.reduceLeDiff, Int.reduceLT, Int.reduceLE, Int.reduceNeg, Int.reduceAdd, Int.reduceSub, Int.reduceMul, Int.reduceToNat, Int.reduceEq, Int.reduceNe, Int.cast_ofNat_Int, Int.natCast_one, Int.natCast_zero, Int.natCast_add, reduceCtorEq, t0, t2, t3, look_set (look_lt h3), h3]
          rw [bad 5 ρ (by omega) (by rw [if_neg (by omega), if_neg (fun h => q2 h.1), if_pos (by omega)])]
          exact ⟨rfl, prefix_set ((List.prefix_append _ _).trans (hp.trans ((List.prefix_append _ _).trans hp2))) (Nat.le_refl _)⟩
    · rename_i hi
      have hii : i = E.length := by omega
      subst hii
      rw [List.drop_eq_nil_of_le (Nat.le_refl _), firstE] at hv
      rw [hv]
      simp only [go_sem, ↓reduceIte, Nat.reduceEqDiff, Nat.reduceAdd, Nat.reduceMul, Nat.reduceLT, Nat.reduceLeDiff, Int.reduceLT, Int.reduceLE, Int.reduceNeg, Int.reduceAdd, Int.reduceSub, Int.reduceMul, Int.reduceToNat, Int.reduceEq, Int.reduceNe, Int.cast_ofNat_Int, Int.natCast_one, Int.natCast_zero, Int.natCast_add, reduceCtorEq, t0, t2, t3, look_set h2l, h2]
      exact ⟨rfl, prefix_set ((List.prefix_append _ _).trans hp) (Nat.le_refl _)⟩
end Go.Proofs.YtkgdkommahgakaaDoor.Abs

/- SameTokens (f32), TokenCount (f31), ExprTokens (f33). -/
namespace Go.Proofs.YtkgdkommahgakaaDoor.Abs
open Go Go.RowKit Gram
set_option linter.unusedVariables false
set_option linter.unusedSimpArgs false
set_option maxRecDepth 100000

def Tk.key (b : Bool) (x : Tk) : Tk := ⟨x.kind, x.text, x.value, if b = true then x.at_ else 0⟩
theorem Tk.key_eq (b : Bool) (x y : Tk) : x.key b = y.key b ↔ x.kind = y.kind ∧ x.text = y.text ∧ x.value = y.value ∧ (b = true → x.at_ = y.at_) := by
  unfold Tk.key
  cases b <;> simp
set_option maxHeartbeats 2000000 in
theorem f32_blk (X : Ext) (A B : List Tk) (b : Bool) (n m c d : Nat) (ow ow2 : Bool) (sz sz2 : Nat) (σ : Heap) (hA : look σ n = some ⟨A.flatMap Tk.cells, ow, sz⟩) (hB : look σ m = some ⟨B.flatMap Tk.cells, ow2, sz2⟩) (h1 : A.length ≤ 140737488351232) (h2 : B.length ≤ 140737488351232) :
    CW Tryd.prog X 32 [.slice (some ⟨n, 0, none⟩) A.length c, .slice (some ⟨m, 0, none⟩) B.length d, .bool b] σ fun v σ' => v = .bool (decide (A.map (Tk.key b) = B.map (Tk.key b))) ∧ σ <+: σ' := by
  refine cw_in Tryd.func32 rfl Tryd.ntmps32 (rs := [.tmp 6]) rfl (by kernel_rfl) (by exact Nat.le_of_ble_eq_true rfl) ?_
  by_cases hle : A.length = B.length
  · have hn := look_lt hA
    have hm := look_lt hB
    have hal := Tk.len A
    have hbl := Tk.len B
    simp only [go_sem, ↓reduceIte, Nat.reduceEqDiff, Nat.reduceAdd, Nat.reduceMul, Nat.reduceLT, Nat.reduceLeDiff, Int.reduceLT, Int.reduceLE, Int.reduceNeg, Int.reduceAdd, Int.reduceSub, Int.reduceMul, Int.reduceToNat, Int.reduceEq, Int.reduceNe, Int.cast_ofNat_Int, Int.natCast_one, Int.natCast_zero, Int.natCast_add, reduceCtorEq, eq_true (show (A.length : Int) = (B.length : Int) by omega)]
    refine LW_run (fun k T ρ => ∃ i : Nat, i + k = A.length ∧ σ = ρ ∧ T 0 = .slice (some ⟨n, 0, none⟩) A.length c ∧ T 1 = .slice (some ⟨m, 0, none⟩) B.length d ∧ T 2 = .bool b ∧ T 7 = .int .i64 i ∧ (A.map (Tk.key b)).take i = (B.map (Tk.key b)).take i) A.length ⟨0, by simp, rfl, rfl, rfl, rfl, rfl, by simp⟩ ?_
    rintro k T _ ⟨i, hk, rfl, t0, t1, t2, t7, hv⟩
    simp only [go_sem, ↓reduceIte, Nat.reduceEqDiff, Nat.reduceAdd, Nat.reduceMul, Nat.reduceLT, Nat.reduceLeDiff, Int.reduceLT, Int.reduceLE, Int.reduceNeg, Int.reduceAdd, Int.reduceSub, Int.reduceMul, Int.reduceToNat, Int.reduceEq, Int.reduceNe, Int.cast_ofNat_Int, Int.natCast_one, Int.natCast_zero, Int.natCast_add, reduceCtorEq, t0, t1, t2, t7]
    refine fork_dec (fun _ => ?_) (fun _ => ?_)
    · rename_i hi
      obtain ⟨x, hx⟩ : ∃ x, A[i]? = some x := ⟨_, List.getElem?_eq_getElem (by omega)⟩
      obtain ⟨y, hy⟩ : ∃ y, B[i]? = some y := ⟨_, List.getElem?_eq_getElem (by omega)⟩
      have hw : IntKind.i64.wrap ((i : Int) + 1) = (i : Int) + 1 := wrap64 (by omega)
      have e1 : (A.map (Tk.key b)).take (i + 1) = (A.map (Tk.key b)).take i ++ [x.key b] := by rw [List.take_add_one, List.getElem?_map, hx]; rfl
      have e2 : (B.map (Tk.key b)).take (i + 1) = (B.map (Tk.key b)).take i ++ [y.key b] := by rw [List.take_add_one, List.getElem?_map, hy]; rfl
      have hne : x.key b ≠ y.key b → decide (A.map (Tk.key b) = B.map (Tk.key b)) = false := fun hne => decide_eq_false fun h => hne (by
        have h1 : (A.map (Tk.key b))[i]? = some (x.key b) := by rw [List.getElem?_map, hx]; rfl
        have h2 : (B.map (Tk.key b))[i]? = some (y.key b) := by rw [List.getElem?_map, hy]; rfl
        rw [h, h2] at h1
        exact (Option.some.inj h1).symm)
      have x0 := Tk.get0 hx
      have x1 := Tk.get hx 1 (by omega)
      have x2 := Tk.get hx 2 (by omega)
      have x3 := Tk.get hx 3 (by omega)
      have y0 := Tk.get0 hy
      have y1 := Tk.get hy 1 (by omega)
      have y2 := Tk.get hy 2 (by omega)
      have y3 := Tk.get hy 3 (by omega)
      simp only [Tk.cells, List.getElem?_cons_succ, List.getElem?_cons_zero] at x1 x2 x3 y1 y2 y3
      simp only [ne_eq, Tk.key_eq] at hne
      by_cases q1 : x.kind = y.kind
      · by_cases q2 : x.text = y.text
        · by_cases q3 : x.value = y.value
          · cases b with
            | false =>
              simp only [go_sem, ↓reduceIte, Nat.reduceEqDiff, Nat.reduceAdd, Nat.reduceMul, Nat.reduceLT, Nat.reduceLeDiff, Int.reduceLT, Int.reduceLE, Int.reduceNeg, Int.reduceAdd, Int.reduceSub, Int.reduceMul, Int.reduceToNat, Int.reduceEq, Int.reduceNe, Int.cast_ofNat_Int, Int.natCast_one, Int.natCast_zero, Int.natCast_add, reduceCtorEq, t0, t1, t2, t7, hi, hA, hB, x0, x1, x2, x3, y0, y1, y2, y3, show (i : Int) < (B.length : Int) by omega, eq_true q1, eq_true q2, eq_true q3, hw]
              refine ⟨k - 1, by omega, i + 1, ?_⟩
              (repeat' (first | exact rfl | apply And.intro))
              all_goals first | omega | (rw [e1, e2, hv, (Tk.key_eq _ x y).2 ⟨q1, q2, q3, fun h => by simp at h⟩])
            | true =>
              by_cases q4 : x.at_ = y.at_
              · simp only [go_sem, ↓reduceIte, Nat.reduceEqDiff, Nat.reduceAdd, Nat.reduceMul, Nat.reduceLT, Nat.reduceLeDiff, Int.reduceLT, Int.reduceLE, Int.reduceNeg, Int.reduceAdd, Int.reduceSub, Int.reduceMul, Int.reduceToNat, Int.reduceEq, Int.reduceNe, Int.cast_ofNat_Int, Int.natCast_one, Int.natCast_zero, Int.natCast_add, reduceCtorEq, t0, t1, t2, t7, hi, hA, hB, x0, x1, x2, x3, y0, y1, y2, y3, show (i : Int) < (B.length : Int) by omega, eq_true q1, eq_true q2, eq_true q3, eq_true q4, hw]
                refine ⟨k - 1, by omega, i + 1, ?_⟩
                (repeat' (first | exact rfl | apply And.intro))
                all_goals first | omega | (rw [e1, e2, hv, (Tk.key_eq _ x y).2 ⟨q1, q2, q3, fun _ => q4⟩])
              · simp only [go_sem, ↓reduceIte, Nat.reduceEqDiff, Nat.reduceAdd, Nat.reduceMul, Nat.reduceLT, Nat.reduceLeDiff, Int.reduceLT, Int.reduceLE, Int.reduceNeg, Int.reduceAdd, Int.reduceSub, Int.reduceMul, Int.reduceToNat, Int.reduceEq, Int.reduceNe, Int.cast_ofNat_Int, Int.natCast_one, Int.natCast_zero, Int.natCast_add, reduceCtorEq, t0, t1, t2, t7, hi, hA, hB, x0, x1, x2, x3, y0, y1, y2, y3, show (i : Int) < (B.length : Int) by omega, eq_true q1, eq_true q2, eq_true q3, eq_false q4]
                exact ⟨by rw [hne (by simp [q4])], List.prefix_rfl⟩
          · simp only [go_sem, ↓reduceIte, Nat.reduceEqDiff, Nat.reduceAdd, Nat.reduceMul, Nat.reduceLT, Nat.reduceLeDiff, Int.reduceLT, Int.reduceLE, Int.reduceNeg, Int.reduceAdd, Int.reduceSub, Int.reduceMul, Int.reduceToNat, Int.reduceEq, Int.reduceNe, Int.cast_ofNat_Int, Int.natCast_one, Int.natCast_zero, Int.natCast_add, reduceCtorEq, t0, t1, t2, t7, hi, hA, hB, x0, x1, x2, x3, y0, y1, y2, y3, show (i : Int) < (B.length : Int) by omega, eq_true q1, eq_true q2, eq_false q3]
            exact ⟨by rw [hne (by simp [q3])], List.prefix_rfl⟩
        · simp only [go_sem, ↓reduceIte, Nat.reduceEqDiff, Nat.reduceAdd, Nat.reduceMul, Nat.reduceLT, Nat.reduceLeDiff, Int.reduceLT, Int.reduceLE, Int.reduceNeg, Int.reduceAdd, Int.reduceSub, Int.reduceMul, Int.reduceToNat, Int.reduceEq, Int.reduceNe, Int.cast_ofNat_Int, Int.natCast_one, Int.natCast_zero, Int.natCast_add, reduceCtorEq, t0, t1, t2, t7, hi, hA, hB, x0, x1, x2, x3, y0, y1, y2, y3, show (i : Int) < (B.length : Int) by omega, eq_true q1, eq_false q2]
          exact ⟨by rw [hne (by simp [q2])], List.prefix_rfl⟩
      · simp only [go_sem, ↓reduceIte, Nat.reduceEqDiff, Nat.reduceAdd, Nat.reduceMul, Nat.reduceLT, Nat.reduceLeDiff, Int.reduceLT, Int.reduceLE, Int.reduceNeg, Int.reduceAdd, Int.reduceSub, Int.reduceMul, Int.reduceToNat, Int.reduceEq, Int.reduceNe, Int.cast_ofNat_Int, Int.natCast_one, Int.natCast_zero, Int.natCast_add, reduceCtorEq, t0, t1, t2, t7, hi, hA, hB, x0, x1, x2, x3, y0, y1, y2, y3, show (i : Int) < (B.length : Int) by omega, eq_false q1]
        exact ⟨by rw [hne (by simp [q1])], List.prefix_rfl⟩
    · rename_i hi
      simp only [go_sem, ↓reduceIte, Nat.reduceEqDiff, Nat.reduceAdd, Nat.reduceMul, Nat.reduceLT, Nat.reduceLeDiff, Int.reduceLT, Int.reduceLE, Int.reduceNeg, Int.reduceAdd, Int.reduceSub, Int.reduceMul, Int.reduceToNat, Int.reduceEq, Int.reduceNe, Int.cast_ofNat_Int, Int.natCast_one, Int.natCast_zero, Int.natCast_add, reduceCtorEq]
      refine ⟨?_, List.prefix_rfl⟩
      rw [List.take_of_length_le (by simp; omega), List.take_of_length_le (by simp; omega)] at hv
      simp [hv]
  · simp only [go_sem, ↓reduceIte, Nat.reduceEqDiff, Nat.reduceAdd, Nat.reduceMul, Nat.reduceLT, Nat.reduceLeDiff, Int.reduceLT, Int.reduceLE, Int.reduceNeg, Int.reduceAdd, Int.reduceSub, Int.reduceMul, Int.reduceToNat, Int.reduceEq, Int.reduceNe, Int.cast_ofNat_Int, Int.natCast_one, Int.natCast_zero, Int.natCast_add, reduceCtorEq, eq_false (show ¬ (A.length : Int) = (B.length : Int) by omega)]
    refine ⟨?_, List.prefix_rfl⟩
    rw [decide_eq_false (fun h => hle (by have := congrArg List.length h; simpa using this))]
theorem f32_tv (A B : List Tk) (b : Bool) (va vb : Value) (σ : Heap) (hA : TV σ A va) (hB : TV σ B vb) (h1 : A.length ≤ 140737488351232) (h2 : B.length ≤ 140737488351232) :
    CW Tryd.prog XQ 32 [va, vb, .bool b] σ fun v σ' => v = .bool (decide (A.map (Tk.key b) = B.map (Tk.key b))) ∧ σ <+: σ' := by
  rcases hA with ⟨rfl, rfl⟩ | ⟨n, c, ow, rfl, hA⟩ <;> rcases hB with ⟨rfl, rfl⟩ | ⟨m, d, ow2, rfl, hB⟩
  · refine (CW.wider xn_xq (CW.ghost 4 (.none 0 _ _ (.none 0 _ _ (.same _ _ _ .nil))) (f32_blk XM [] [] b σ.length σ.length 1 1 true true 4 4 _ (by rw [look_app_new, look_zero]; rfl) (by rw [look_app_new, look_zero]; rfl) h1 h2))).mono ?_
    exact fun v σ' h => ⟨h.1, ghost_pre h.2⟩
  · refine (CW.wider xn_xq (CW.ghost 4 (.none 0 _ _ (.same _ _ _ (.same _ _ _ .nil))) (f32_blk XM [] B b σ.length m 1 d true ow2 4 4 _ (by rw [look_app_new, look_zero]; rfl) (look_prefix (List.prefix_append _ _) hB) h1 h2))).mono ?_
    exact fun v σ' h => ⟨h.1, ghost_pre h.2⟩
  · refine (CW.wider xn_xq (CW.ghost 4 (.same _ _ _ (.none 0 _ _ (.same _ _ _ .nil))) (f32_blk XM A [] b n σ.length c 1 ow true 4 4 _ (look_prefix (List.prefix_append _ _) hA) (by rw [look_app_new, look_zero]; rfl) h1 h2))).mono ?_
    exact fun v σ' h => ⟨h.1, ghost_pre h.2⟩
  · exact f32_blk XQ A B b n m c d ow ow2 4 4 σ hA hB h1 h2
/-! ### counting -/
def cnt (E : List Nd) (i : Nat) : Int := if 8001 < (toks E i).length then 8001 else (toks E i).length
def cntV (E : List Nd) (i : Nat) : Value := .int .i64 (cnt E i)
def CV (b : Nat) (σ : Heap) (E : List Nd) (i : Nat) (v : Value) : Prop := (i = 0 ∧ v = .slice none 0 0) ∨ ∃ q c, v = .slice (some ⟨q, 0, none⟩) i (c + 1) ∧ b ≤ q ∧ look σ q = some ⟨(List.range i).map (cntV E), true, 1⟩
theorem cnt_step {E : List Nd} (hE : validE E) {i : Nat} {x : Nd} (hx : E[i]? = some x) : cnt E i = (let a := if 3 ≤ x.kind then cnt E x.left.toNat + 1 else 1; let b := if 5 ≤ x.kind then a + cnt E x.right.toNat + 2 else a; if 8001 < b then 8001 else b) := by
  obtain ⟨n1, n2, n3, n4, n5⟩ := nodeErr_zero (hE i x hx)
  simp only
  unfold cnt
  rw [toks_eq hE hx]
  by_cases k1 : x.kind = 1
  · rw [if_pos k1, if_neg (show ¬ 3 ≤ x.kind by omega), if_neg (show ¬ 5 ≤ x.kind by omega)]; rfl
  rw [if_neg k1]
  by_cases k2 : x.kind = 2
  · rw [if_pos k2, if_neg (show ¬ 3 ≤ x.kind by omega), if_neg (show ¬ 5 ≤ x.kind by omega)]; rfl
  rw [if_neg k2, if_pos (show 3 ≤ x.kind by omega)]
  by_cases k3 : x.kind = 3
  · rw [if_pos k3, if_neg (show ¬ 5 ≤ x.kind by omega), List.length_cons]
    repeat' split
    all_goals omega
  rw [if_neg k3]
  by_cases k4 : x.kind = 4
  · rw [if_pos k4, if_neg (show ¬ 5 ≤ x.kind by omega), List.length_cons]
    repeat' split
    all_goals omega
  rw [if_neg k4, if_pos (show 5 ≤ x.kind by omega)]
  simp only [List.length_cons, List.length_append, List.length_nil]
  repeat' split
  all_goals omega
theorem cnt_le (E : List Nd) (i : Nat) : 0 ≤ cnt E i ∧ cnt E i ≤ 8001 := by
  unfold cnt
  split <;> omega
set_option maxHeartbeats 2000000 in
theorem f31_ok (X : Ext) (E : List Nd) (n c : Nat) (ow : Bool) (sz : Nat) (σ : Heap) (hl : look σ n = some ⟨E.flatMap Nd.cells, ow, sz⟩) (hE : validE E) (hz : E.length ≤ 60) :
    CW Tryd.prog X 31 [.slice (some ⟨n, 0, none⟩) E.length c] σ fun v σ' => CV σ.length σ' E E.length v ∧ σ <+: σ' := by
  refine cw_in Tryd.func31 rfl Tryd.ntmps31 (rs := [.tmp 2]) rfl (by kernel_rfl) (by exact Nat.le_of_ble_eq_true rfl) ?_
  have hn := look_lt hl
  have hel := Nd.len E
  simp only [go_sem, ↓reduceIte, Nat.reduceEqDiff, Nat.reduceAdd, Nat.reduceMul, Nat.reduceLT, Nat.reduceLeDiff, Int.reduceLT, Int.reduceLE, Int.reduceNeg, Int.reduceAdd, Int.reduceSub, Int.reduceMul, Int.reduceToNat, Int.reduceEq, Int.reduceNe, Int.cast_ofNat_Int, Int.natCast_one, Int.natCast_zero, Int.natCast_add, reduceCtorEq]
  refine LW_run (fun k T ρ => ∃ i : Nat, i + k = E.length ∧ σ <+: ρ ∧ T 0 = .slice (some ⟨n, 0, none⟩) E.length c ∧ T 4 = .int .i64 i ∧ CV σ.length ρ E i (T 3)) E.length ⟨0, by simp, List.prefix_rfl, rfl, rfl, .inl ⟨rfl, rfl⟩⟩ ?_
  rintro k T ρ ⟨i, hk, hp, t0, t4, hC⟩
  have hl1 := look_prefix hp hl
  simp only [go_sem, ↓reduceIte, Nat.reduceEqDiff, Nat.reduceAdd, Nat.reduceMul, Nat.reduceLT, Nat.reduceLeDiff, Int.reduceLT, Int.reduceLE, Int.reduceNeg, Int.reduceAdd, Int.reduceSub, Int.reduceMul, Int.reduceToNat, Int.reduceEq, Int.reduceNe, Int.cast_ofNat_Int, Int.natCast_one, Int.natCast_zero, Int.natCast_add, reduceCtorEq, t0, t4]
  refine fork_dec (fun _ => ?_) (fun _ => ?_)
  · rename_i hi
    obtain ⟨x, hx⟩ : ∃ x, E[i]? = some x := ⟨_, List.getElem?_eq_getElem (by omega)⟩
    have hst := cnt_step hE hx
    obtain ⟨n1, n2, n3, n4, n5⟩ := nodeErr_zero (hE i x hx)
    have hw : IntKind.i64.wrap ((i : Int) + 1) = (i : Int) + 1 := wrap64 (by omega)
    have z0 : (E.flatMap Nd.cells)[i * 5]? = some (.int .i64 x.kind) := cell_at Nd.cells 5 (fun _ => rfl) hx (k := 0) (by omega)
    have z3 : (E.flatMap Nd.cells)[i * 5 + 3]? = some (.int .i64 x.left) := cell_at Nd.cells 5 (fun _ => rfl) hx (k := 3) (by omega)
    have z4 : (E.flatMap Nd.cells)[i * 5 + 4]? = some (.int .i64 x.right) := cell_at Nd.cells 5 (fun _ => rfl) hx (k := 4) (by omega)
    obtain ⟨out, t3⟩ : ∃ out, T 3 = out := ⟨_, rfl⟩
    rw [t3] at hC
    have new : ∀ u : Int, u = cnt E i → ∃ v' ρ', aappend Tryd.prog (ρ ++ [some ⟨[.int .i64 u], true, 1⟩]) #[52, 52] out (.slice (some ⟨ρ.length, 0, none⟩) 1 1) = some (v', ρ') ∧ σ <+: ρ' ∧ CV σ.length ρ' E (i + 1) v' := by
      rintro u rfl
      have hsrc : asrc (ρ ++ [some ⟨[.int .i64 (cnt E i)], true, 1⟩]) 1 (.slice (some ⟨ρ.length, 0, none⟩) 1 1) = some (1, [.int .i64 (cnt E i)]) := by
        rw [src_ptr (b := ⟨[.int .i64 (cnt E i)], true, 1⟩) (by rw [look_app_new, look_zero]) (by simp)]
        rfl
      have hle := hp.length_le
      rcases hC with ⟨rfl, rfl⟩ | ⟨q, c', rfl, h2, h4⟩
      · rw [an52_52, hsrc, Option.bind_some, if_pos (by simp)]
        refine ⟨_, _, rfl, (hp.trans (List.prefix_append _ _)).trans (List.prefix_append _ _), .inr ⟨_, 1, rfl, by simp; omega, ?_⟩⟩
        rw [look_app_new, look_zero]
        rfl
      · have hq := look_lt h4
        rw [ap52_52, hsrc, Option.bind_some, if_pos (by simp; omega), if_neg (by omega), look_app_lt hq, h4, Option.bind_some, if_pos (by simp)]
        refine ⟨_, _, rfl, (prefix_set (hp.trans (List.prefix_append _ _)) h2).trans (List.prefix_append _ _), .inr ⟨_, i + 1, rfl, by simp; omega, ?_⟩⟩
        rw [lsn, look_zero, List.drop_zero, List.range_succ, List.map_append]
        rfl
    have old : ∀ j : Nat, j < i → ∃ q c', out = .slice (some ⟨q, 0, none⟩) i (c' + 1) ∧ look ρ q = some ⟨(List.range i).map (cntV E), true, 1⟩ ∧ ((List.range i).map (cntV E))[j]? = some (.int .i64 (cnt E j)) := fun j hj => by
      rcases hC with ⟨rfl, rfl⟩ | ⟨q, c', rfl, h2, h4⟩
      · omega
      · refine ⟨q, c', rfl, h4, ?_⟩
        rw [List.getElem?_map, List.getElem?_range hj]
        rfl
    by_cases k3 : 3 ≤ x.kind
    · obtain ⟨l0, l1⟩ := n4 (by omega)
      obtain ⟨l, hlq⟩ := Int.eq_ofNat_of_zero_le l0
      obtain ⟨q, c', rfl, hq1, hq2⟩ := old l (by omega)
      have cl1 := cnt_le E l
      rw [hlq] at hst z3
      rw [Int.toNat_natCast] at hst
      have hli : (l : Int) < (i : Int) := by omega
      have hw1 : IntKind.i64.wrap (cnt E l + 1) = cnt E l + 1 := wrap64 (by omega)
      by_cases k5 : 5 ≤ x.kind
      · obtain ⟨r0, r1⟩ := n5 (by omega)
        obtain ⟨r, hrq⟩ := Int.eq_ofNat_of_zero_le r0
        obtain ⟨_, _, he, _, hr2⟩ := old r (by omega)
        have cr1 := cnt_le E r
        rw [hrq] at hst z4
        rw [Int.toNat_natCast] at hst
        have hri : (r : Int) < (i : Int) := by omega
        have hw2 : IntKind.i64.wrap (cnt E l + 1 + cnt E r) = cnt E l + 1 + cnt E r := wrap64 (by omega)
        have hw3 : IntKind.i64.wrap (cnt E l + 1 + cnt E r + 2) = cnt E l + 1 + cnt E r + 2 := wrap64 (by omega)
        simp only [if_pos k3, if_pos k5] at hst
        by_cases h8 : 8001 < cnt E l + 1 + cnt E r + 2
        · rw [if_pos h8] at hst
          obtain ⟨v', ρ', hap, hp', hC'⟩ := new _ hst.symm
          simp only [go_sem, ↓reduceIte, Nat.reduceEqDiff, Nat.reduceAdd, Nat.reduceMul, Nat.reduceLT, Nat.reduceLeDiff, Int.reduceLT, Int.reduceLE, Int.reduceNeg, Int.reduceAdd, Int.reduceSub, Int.reduceMul, Int.reduceToNat, Int.reduceEq, Int.reduceNe, Int.cast_ofNat_Int, Int.natCast_one, Int.natCast_zero, Int.natCast_add, reduceCtorEq, t0, t3, t4, hi, hl1, z0, z3, z4, hw, hap, eq_true k3, eq_true k5, hli, hri, hq1, hq2, hr2, hw1, hw2, hw3, h8]
          refine ⟨k - 1, by omega, i + 1, by omega, hp', ?_⟩
          (repeat' (first | exact rfl | apply And.intro))
          exact hC'
        · rw [if_neg h8] at hst
          obtain ⟨v', ρ', hap, hp', hC'⟩ := new _ hst.symm
          simp only [go_sem, ↓reduceIte, Nat.reduceEqDiff, Nat.reduceAdd, Nat.reduceMul, Nat.reduceLT, Nat.reduceLeDiff, Int.reduceLT, Int.reduceLE, Int.reduceNeg, Int.reduceAdd, Int.reduceSub, Int.reduceMul, Int.reduceToNat, Int.reduceEq, Int.reduceNe, Int.cast_ofNat_Int, Int.natCast_one, Int.natCast_zero, Int.natCast_add, reduceCtorEq, t0, t3, t4, hi, hl1, z0, z3, z4, hw, hap, eq_true k3, eq_true k5, hli, hri, hq1, hq2, hr2, hw1, hw2, hw3, h8]
          refine ⟨k - 1, by omega, i + 1, by omega, hp', ?_⟩
          (repeat' (first | exact rfl | apply And.intro))
          exact hC'
      · simp only [if_pos k3, if_neg k5] at hst
        by_cases h8 : 8001 < cnt E l + 1
        · rw [if_pos h8] at hst
          obtain ⟨v', ρ', hap, hp', hC'⟩ := new _ hst.symm
          simp only [go_sem, ↓reduceIte, Nat.reduceEqDiff, Nat.reduceAdd, Nat.reduceMul, Nat.reduceLT, Nat.reduceLeDiff, Int.reduceLT, Int.reduceLE, Int.reduceNeg, Int.reduceAdd, Int.reduceSub, Int.reduceMul, Int.reduceToNat, Int.reduceEq, Int.reduceNe, Int.cast_ofNat_Int, Int.natCast_one, Int.natCast_zero, Int.natCast_add, reduceCtorEq, t0, t3, t4, hi, hl1, z0, z3, z4, hw, hap, eq_true k3, eq_false k5, hli, hq1, hq2, hw1, h8]
          refine ⟨k - 1, by omega, i + 1, by omega, hp', ?_⟩
          (repeat' (first | exact rfl | apply And.intro))
          exact hC'
        · rw [if_neg h8] at hst
          obtain ⟨v', ρ', hap, hp', hC'⟩ := new _ hst.symm
          simp only [go_sem, ↓reduceIte, Nat.reduceEqDiff, Nat.reduceAdd, Nat.reduceMul, Nat.reduceLT, Nat.reduceLeDiff, Int.reduceLT, Int.reduceLE, Int.reduceNeg, Int.reduceAdd, Int.reduceSub, Int.reduceMul, Int.reduceToNat, Int.reduceEq, Int.reduceNe, Int.cast_ofNat_Int, Int.natCast_one, Int.natCast_zero, Int.natCast_add, reduceCtorEq, t0, t3, t4, hi, hl1, z0, z3, z4, hw, hap, eq_true k3, eq_false k5, hli, hq1, hq2, hw1, h8]
          refine ⟨k - 1, by omega, i + 1, by omega, hp', ?_⟩
          (repeat' (first | exact rfl | apply And.intro))
          exact hC'
    · have k5 : ¬ 5 ≤ x.kind := by omega
      simp only [if_neg k3, if_neg k5] at hst
      rw [if_neg (by omega)] at hst
      obtain ⟨v', ρ', hap, hp', hC'⟩ := new _ hst.symm
      simp only [go_sem, ↓reduceIte, Nat.reduceEqDiff, Nat.reduceAdd, Nat.reduceMul, Nat.reduceLT, Nat.reduceLeDiff, Int.reduceLT, Int.reduceLE, Int.reduceNeg, Int.reduceAdd, Int.reduceSub, Int.reduceMul, Int.reduceToNat, Int.reduceEq, Int.reduceNe, Int.cast_ofNat_Int, Int.natCast_one, Int.natCast_zero, Int.natCast_add, reduceCtorEq, t0, t3, t4, hi, hl1, z0, z3, z4, hw, hap, eq_false k3, eq_false k5]
      refine ⟨k - 1, by omega, i + 1, by omega, hp', ?_⟩
      (repeat' (first | exact rfl | apply And.intro))
      exact hC'
  · rename_i hi
    have hii : i = E.length := by omega
    subst hii
    simp only [go_sem, ↓reduceIte, Nat.reduceEqDiff, Nat.reduceAdd, Nat.reduceMul, Nat.reduceLT, Nat.reduceLeDiff, Int.reduceLT, Int.reduceLE, Int.reduceNeg, Int.reduceAdd, Int.reduceSub, Int.reduceMul, Int.reduceToNat, Int.reduceEq, Int.reduceNe, Int.cast_ofNat_Int, Int.natCast_one, Int.natCast_zero, Int.natCast_add, reduceCtorEq]
    exact ⟨hC, hp⟩
/-! ### the reference's tokens -/
theorem toks_mono {E : List Nd} (hE : validE E) {i : Nat} {x : Nd} (hx : E[i]? = some x) : (2 < x.kind → (toks E x.left.toNat).length < (toks E i).length) ∧ (4 < x.kind → (toks E x.left.toNat).length + (toks E x.right.toNat).length + 3 = (toks E i).length) := by
  rw [toks_eq hE hx]
  constructor
  · intro h
    rw [if_neg (by omega), if_neg (by omega)]
    split
    · simp
    · split
      · simp
      · simp; omega
  · intro h
    rw [if_neg (by omega), if_neg (by omega), if_neg (by omega), if_neg (by omega)]
    simp
    omega
theorem app_tk {σ ρ : Heap} {A L : List Tk} {q c : Nat} {v : Value} (hp : σ <+: ρ) (hq : σ.length ≤ q) (hA : look ρ q = some ⟨A.flatMap Tk.cells, true, 4⟩) (hA0 : 0 < A.length) (hv : asrc ρ 4 v = some (L.length, L.flatMap Tk.cells)) (hs : A.length + L.length ≤ 100000) :
    ∃ ρ', aappend Tryd.prog ρ #[22, 22] (.slice (some ⟨q, 0, none⟩) A.length c) v = some (.slice (some ⟨ρ.length, 0, none⟩) (A.length + L.length) (A.length + L.length + 1), ρ') ∧ σ <+: ρ' ∧ ρ.length < ρ'.length ∧ look ρ' ρ.length = some ⟨(A ++ L).flatMap Tk.cells, true, 4⟩ ∧ ∀ j b, j ≠ q → look ρ j = some b → look ρ' j = some b := by
  have hql := look_lt hA
  have hal := Tk.len A
  rw [ap22_22, hv, Option.bind_some, if_pos (by omega), if_neg (by omega), hA, Option.bind_some, if_pos (by simp [hal])]
  refine ⟨_, rfl, (prefix_set hp hq).trans (List.prefix_append _ _), by simp, ?_, fun j b hj hb => ?_⟩
  · rw [lsn, look_zero, List.drop_zero, List.flatMap_append]
  · rw [look_app_lt (by rw [List.length_set]; exact look_lt hb), look_set_ne hj]
    exact hb
end Go.Proofs.YtkgdkommahgakaaDoor.Abs

/- The reference's tokens of a node (f33), and the law function ExprTokensMatchesSpec (f7). -/
namespace Go.Proofs.YtkgdkommahgakaaDoor.Abs
open Go Go.RowKit Gram
set_option linter.unusedVariables false
set_option linter.unusedSimpArgs false
set_option maxRecDepth 100000

theorem TB.srcL {σ : Heap} {L : List Tk} {v : Value} (l : Heap) (h : TB σ L v) : asrc (σ ++ l) 4 v = some (L.length, L.flatMap Tk.cells) := (h.mono (List.prefix_append _ _)).src
set_option maxHeartbeats 4000000 in
theorem f33_ok (X : Ext) {E : List Nd} (hE : validE E) (n c : Nat) (ow : Bool) (sz : Nat) (hz : E.length ≤ 60) : ∀ (F i : Nat), i < F → i < E.length → (toks E i).length ≤ 8000 → ∀ (σ : Heap), look σ n = some ⟨E.flatMap Nd.cells, ow, sz⟩ →
    CW Tryd.prog X 33 [.slice (some ⟨n, 0, none⟩) E.length c, .int .i64 i] σ fun v σ' => (∃ q d, v = .slice (some ⟨q, 0, none⟩) (toks E i).length d ∧ σ.length ≤ q ∧ look σ' q = some ⟨(toks E i).flatMap Tk.cells, true, 4⟩) ∧ σ <+: σ' := by
  intro F
  induction F with
  | zero => intro i h; omega
  | succ F ih =>
    intro i hiF hi h8 σ hl
    have hn := look_lt hl
    have hel := Nd.len E
    obtain ⟨x, hx⟩ : ∃ x, E[i]? = some x := ⟨_, List.getElem?_eq_getElem hi⟩
    obtain ⟨n1, n2, n3, n4, n5⟩ := nodeErr_zero (hE i x hx)
    have hxt := toks_eq hE hx
    obtain ⟨hm1, hm2⟩ := toks_mono hE hx
    have hib : (i : Int) < (E.length : Int) := by omega
    refine cw_in Tryd.func33 rfl Tryd.ntmps33 (rs := [.tmp 4]) rfl (by kernel_rfl) (by exact Nat.le_of_ble_eq_true rfl) ?_
    simp only [go_sem, ↓reduceIte, Nat.reduceEqDiff, Nat.reduceAdd, Nat.reduceMul, Nat.reduceLT, Nat.reduceLeDiff, Int.reduceLT, Int.reduceLE, Int.reduceNeg, Int.reduceAdd, Int.reduceSub, Int.reduceMul, Int.reduceToNat, Int.reduceEq, Int.reduceNe, Int.cast_ofNat_Int, Int.natCast_one, Int.natCast_zero, Int.natCast_add, reduceCtorEq, hib, hl, Nd.take hx, hel, show i * 5 + 5 ≤ E.length * 5 by omega, Nd.cells]
    by_cases k1 : x.kind = 1
    · rw [if_pos k1] at hxt
      simp only [go_sem, ↓reduceIte, Nat.reduceEqDiff, Nat.reduceAdd, Nat.reduceMul, Nat.reduceLT, Nat.reduceLeDiff, Int.reduceLT, Int.reduceLE, Int.reduceNeg, Int.reduceAdd, Int.reduceSub, Int.reduceMul, Int.reduceToNat, Int.reduceEq, Int.reduceNe, Int.cast_ofNat_Int, Int.natCast_one, Int.natCast_zero, Int.natCast_add, reduceCtorEq, k1]
      rw [hxt]
      exact ⟨⟨_, _, rfl, by simp, by rw [look_app_add]; rfl⟩, List.prefix_append _ _⟩
    by_cases k2 : x.kind = 2
    · rw [if_neg k1, if_pos k2] at hxt
      simp only [go_sem, ↓reduceIte, Nat.reduceEqDiff, Nat.reduceAdd, Nat.reduceMul, Nat.reduceLT, Nat.reduceLeDiff, Int.reduceLT, Int.reduceLE, Int.reduceNeg, Int.reduceAdd, Int.reduceSub, Int.reduceMul, Int.reduceToNat, Int.reduceEq, Int.reduceNe, Int.cast_ofNat_Int, Int.natCast_one, Int.natCast_zero, Int.natCast_add, reduceCtorEq, k2]
      rw [hxt]
      exact ⟨⟨_, _, rfl, by simp, by rw [look_app_add]; rfl⟩, List.prefix_append _ _⟩
    rw [if_neg k1, if_neg k2] at hxt
    obtain ⟨l0, l1⟩ := n4 (by omega)
    obtain ⟨l, hlq⟩ := Int.eq_ofNat_of_zero_le l0
    rw [hlq, Int.toNat_natCast] at hxt hm1 hm2
    have hL := ih l (by omega) (by omega) (by have := hm1 (by omega); omega)
    by_cases k3 : x.kind = 3
    · simp only [go_sem, ↓reduceIte, Nat.reduceEqDiff, Nat.reduceAdd, Nat.reduceMul, Nat.reduceLT, Nat.reduceLeDiff, Int.reduceLT, Int.reduceLE, Int.reduceNeg, Int.reduceAdd, Int.reduceSub, Int.reduceMul, Int.reduceToNat, Int.reduceEq, Int.reduceNe, Int.cast_ofNat_Int, Int.natCast_one, Int.natCast_zero, Int.natCast_add, reduceCtorEq, k1, k2, k3, hlq]
      refine (hL _ ((look_app_lt hn).trans hl)).mono ?_
      rintro _ ρ1 ⟨⟨q, d, rfl, hq, hlq1⟩, hp1⟩
      have ha := look_prefix hp1 (show look _ (σ.length + 1) = some _ by rw [look_app_add]; rfl)
      obtain ⟨ρ', hap, hp', hlt, hlk, _⟩ := app_tk (σ := σ) (A := [tkS [45]]) (L := toks E l) (c := 1) ((List.prefix_append _ _).trans hp1) (show σ.length ≤ σ.length + 1 by omega) ha (by simp) (TB.src ⟨q, d, true, rfl, hlq1⟩) (by have := hm1 (by omega); simp; omega)
      simp only [List.length_cons, List.length_nil, Nat.zero_add] at hap
      simp only [go_sem, ↓reduceIte, Nat.reduceEqDiff, Nat.reduceAdd, Nat.reduceMul, Nat.reduceLT, Nat.reduceLeDiff, Int.reduceLT, Int.reduceLE, Int.reduceNeg, Int.reduceAdd, Int.reduceSub, Int.reduceMul, Int.reduceToNat, Int.reduceEq, Int.reduceNe, Int.cast_ofNat_Int, Int.natCast_one, Int.natCast_zero, Int.natCast_add, reduceCtorEq, hap]
      have e : toks E i = [tkS [45]] ++ toks E l := by rw [hxt]; simp [k3]
      rw [e]
      refine ⟨⟨ρ1.length, 1 + (toks E l).length + 1, by simp; omega, ?_, hlk⟩, hp'⟩
      have := hp1.length_le
      simp at this
      omega
    rw [if_neg k3] at hxt
    by_cases k4 : x.kind = 4
    · simp only [go_sem, ↓reduceIte, Nat.reduceEqDiff, Nat.reduceAdd, Nat.reduceMul, Nat.reduceLT, Nat.reduceLeDiff, Int.reduceLT, Int.reduceLE, Int.reduceNeg, Int.reduceAdd, Int.reduceSub, Int.reduceMul, Int.reduceToNat, Int.reduceEq, Int.reduceNe, Int.cast_ofNat_Int, Int.natCast_one, Int.natCast_zero, Int.natCast_add, reduceCtorEq, k1, k2, k4, hlq]
      refine (hL _ ((look_app_lt hn).trans hl)).mono ?_
      rintro _ ρ1 ⟨⟨q, d, rfl, hq, hlq1⟩, hp1⟩
      have ha := look_prefix hp1 (show look _ (σ.length + 1) = some _ by rw [look_app_add]; rfl)
      obtain ⟨ρ', hap, hp', hlt, hlk, _⟩ := app_tk (σ := σ) (A := [tkS [126]]) (L := toks E l) (c := 1) ((List.prefix_append _ _).trans hp1) (show σ.length ≤ σ.length + 1 by omega) ha (by simp) (TB.src ⟨q, d, true, rfl, hlq1⟩) (by have := hm1 (by omega); simp; omega)
      simp only [List.length_cons, List.length_nil, Nat.zero_add] at hap
      simp only [go_sem, ↓reduceIte, Nat.reduceEqDiff, Nat.reduceAdd, Nat.reduceMul, Nat.reduceLT, Nat.reduceLeDiff, Int.reduceLT, Int.reduceLE, Int.reduceNeg, Int.reduceAdd, Int.reduceSub, Int.reduceMul, Int.reduceToNat, Int.reduceEq, Int.reduceNe, Int.cast_ofNat_Int, Int.natCast_one, Int.natCast_zero, Int.natCast_add, reduceCtorEq, hap]
      have e : toks E i = [tkS [126]] ++ toks E l := by rw [hxt]; simp [k4]
      rw [e]
      refine ⟨⟨ρ1.length, 1 + (toks E l).length + 1, by simp; omega, ?_, hlk⟩, hp'⟩
      have := hp1.length_le
      simp at this
      omega
    rw [if_neg k4] at hxt
    obtain ⟨r0, r1⟩ := n5 (by omega)
    obtain ⟨r, hrq⟩ := Int.eq_ofNat_of_zero_le r0
    rw [hrq, Int.toNat_natCast] at hxt hm2
    obtain ⟨m, hm⟩ : ∃ m : Nat, x.kind - 5 = m := ⟨(x.kind - 5).toNat, by omega⟩
    rw [hm, Int.toNat_natCast] at hxt
    have hop := op_at (m := m) (by omega)
    have hwk : IntKind.i64.wrap (x.kind - 5) = (m : Int) := by rw [wrap64 (by omega)]; exact hm
    have hm10 : (m : Int) < 10 := by omega
    have hsum := hm2 (by omega)
    have hR := ih r (by omega) (by omega) (by omega)
    generalize ops.getD m [] = sg at *
    simp only [go_sem, ↓reduceIte, Nat.reduceEqDiff, Nat.reduceAdd, Nat.reduceMul, Nat.reduceLT, Nat.reduceLeDiff, Int.reduceLT, Int.reduceLE, Int.reduceNeg, Int.reduceAdd, Int.reduceSub, Int.reduceMul, Int.reduceToNat, Int.reduceEq, Int.reduceNe, Int.cast_ofNat_Int, Int.natCast_one, Int.natCast_zero, Int.natCast_add, reduceCtorEq, k1, k2, k3, k4, hlq]
    refine (hL _ ((look_app_lt hn).trans hl)).mono ?_
    rintro _ ρ1 ⟨⟨q, d, rfl, hq, hlq1⟩, hp1⟩
    have ha := look_prefix hp1 (show look _ (σ.length + 2) = some _ by rw [look_app_add]; rfl)
    have hx1 := look_prefix hp1 (show look _ σ.length = some _ by rw [look_app_new, look_zero])
    have ho1 := look_prefix hp1 (show look _ (σ.length + 1) = some _ by rw [look_app_add]; rfl)
    have hle1 := hp1.length_le
    simp only [List.length_append, List.length_cons, List.length_nil] at hle1
    obtain ⟨ρ2, hap2, hp2, hlt2, hlk2, hot2⟩ := app_tk (σ := σ) (A := [tkS [40]]) (L := toks E l) (c := 1) ((List.prefix_append _ _).trans hp1) (show σ.length ≤ σ.length + 2 by omega) ha (by simp) (TB.src ⟨q, d, true, rfl, hlq1⟩) (by simp; omega)
    have hx2 := hot2 _ _ (by omega) hx1
    have ho2 := hot2 _ _ (by omega) ho1
    simp only [List.length_cons, List.length_nil, Nat.zero_add] at hap2
    have hx2l := look_lt hx2
    have ho2l := look_lt ho2
    have hk2l := look_lt hlk2
    obtain ⟨ρ3, hap3, hp3, hlt3, hlk3, hot3⟩ := app_tk (σ := σ) (ρ := ρ2 ++ [some ⟨(tkS sg).cells, true, 4⟩]) (A := [tkS [40]] ++ toks E l) (L := [tkS sg]) (c := 1 + (toks E l).length + 1) (v := .slice (some ⟨ρ2.length, 0, none⟩) 1 1) (hp2.trans (List.prefix_append _ _)) (show σ.length ≤ ρ1.length by omega) ((look_app_lt hk2l).trans hlk2) (by simp) (by rw [src_ptr (b := ⟨(tkS sg).cells, true, 4⟩) (by rw [look_app_new, look_zero]) (by simp [tkS, Tk.cells])]; rfl) (by simp; omega)
    have hx3 := hot3 _ _ (by omega) ((look_app_lt hx2l).trans hx2)
    have hn3 := look_prefix hp3 hl
    have hx3l := look_lt hx3
    have hk3l := look_lt hlk3
    simp only [List.length_cons, List.length_nil, Nat.zero_add, List.length_append, tkS, Tk.cells] at hap3
    simp only [go_sem, ↓reduceIte, Nat.reduceEqDiff, Nat.reduceAdd, Nat.reduceMul, Nat.reduceLT, Nat.reduceLeDiff, Int.reduceLT, Int.reduceLE, Int.reduceNeg, Int.reduceAdd, Int.reduceSub, Int.reduceMul, Int.reduceToNat, Int.reduceEq, Int.reduceNe, Int.cast_ofNat_Int, Int.natCast_one, Int.natCast_zero, Int.natCast_add, reduceCtorEq, hap2, hx2, ho2, hwk, hm10, hop, hap3, hx3, hrq]
    refine (hR _ hn3).mono ?_
    rintro _ ρ4 ⟨⟨q2, d2, rfl, hq2, hlq2⟩, hp4⟩
    have hk4 := look_prefix hp4 hlk3
    have hle4 := hp4.length_le
    have hle3 := hp3.length_le
    obtain ⟨ρ5, hap5, hp5, hlt5, hlk5, _⟩ := app_tk (σ := σ) (A := [tkS [40]] ++ toks E l ++ [tkS sg]) (L := toks E r) (c := 1 + (toks E l).length + 1 + 1) (v := .slice (some ⟨q2, 0, none⟩) (toks E r).length d2) (hp3.trans hp4) (by simp; omega) hk4 (by simp) (TB.src ⟨q2, d2, true, rfl, hlq2⟩) (by simp; omega)
    have hk5l := look_lt hlk5
    obtain ⟨ρ6, hap6, hp6, hlt6, hlk6, _⟩ := app_tk (σ := σ) (ρ := ρ5 ++ [some ⟨(tkS [41]).cells, true, 4⟩]) (A := [tkS [40]] ++ toks E l ++ [tkS sg] ++ toks E r) (L := [tkS [41]]) (c := 1 + (toks E l).length + 1 + (toks E r).length + 1) (v := .slice (some ⟨ρ5.length, 0, none⟩) 1 1) (hp5.trans (List.prefix_append _ _)) (show σ.length ≤ ρ4.length by have := hp3.length_le; omega) ((look_app_lt hk5l).trans hlk5) (by simp) (by rw [src_ptr (b := ⟨(tkS [41]).cells, true, 4⟩) (by rw [look_app_new, look_zero]) (by simp [tkS, Tk.cells])]; rfl) (by simp; omega)
    simp only [List.length_cons, List.length_nil, Nat.zero_add, List.length_append, tkS, Tk.cells] at hap5 hap6
    simp only [go_sem, ↓reduceIte, Nat.reduceEqDiff, Nat.reduceAdd, Nat.reduceMul, Nat.reduceLT, Nat.reduceLeDiff, Int.reduceLT, Int.reduceLE, Int.reduceNeg, Int.reduceAdd, Int.reduceSub, Int.reduceMul, Int.reduceToNat, Int.reduceEq, Int.reduceNe, Int.cast_ofNat_Int, Int.natCast_one, Int.natCast_zero, Int.natCast_add, reduceCtorEq, hap5, hap6]
    have e : toks E i = [tkS [40]] ++ toks E l ++ [tkS sg] ++ toks E r ++ [tkS [41]] := by rw [hxt]; simp
    rw [e]
    refine ⟨⟨ρ5.length + 1, 1 + (toks E l).length + 1 + (toks E r).length + 1 + 1, by simp; omega, ?_, by simpa using hlk6⟩, hp6⟩
    have := hp5.length_le
    omega
def TokFault (E : List Nd) : Prop := ∃ i, i < E.length ∧ 8000 < (toks E i).length
set_option maxHeartbeats 4000000 in
theorem f7_ok (E : List Nd) (n c sz : Nat) (σ : Heap) (hl : look σ n = some ⟨E.flatMap Nd.cells, false, sz⟩) (hG : GL σ) (ht : ∀ x ∈ E, x.name.length ≤ 140737488351232) (hz : E.length ≤ 140737488351232) :
    CW Tryd.prog XQ 7 [.slice (some ⟨n, 0, none⟩) E.length c] σ fun v σ' => v = .bool true ∧ σ <+: σ' := by
  refine cw_in Tryd.func7 rfl Tryd.ntmps7 (rs := [.tmp 2]) rfl (by kernel_rfl) (by exact Nat.le_of_ble_eq_true rfl) ?_
  simp only [go_sem, ↓reduceIte, Nat.reduceEqDiff, Nat.reduceAdd, Nat.reduceMul, Nat.reduceLT, Nat.reduceLeDiff, Int.reduceLT, Int.reduceLE, Int.reduceNeg, Int.reduceAdd, Int.reduceSub, Int.reduceMul, Int.reduceToNat, Int.reduceEq, Int.reduceNe, Int.cast_ofNat_Int, Int.natCast_one, Int.natCast_zero, Int.natCast_add, reduceCtorEq]
  refine (CW.wider xl_xq (f17_ok σ hG)).mono ?_
  rintro _ ρ0 ⟨rfl, hp0⟩
  simp only [go_sem, ↓reduceIte, Nat.reduceEqDiff, Nat.reduceAdd, Nat.reduceMul, Nat.reduceLT, Nat.reduceLeDiff, Int.reduceLT, Int.reduceLE, Int.reduceNeg, Int.reduceAdd, Int.reduceSub, Int.reduceMul, Int.reduceToNat, Int.reduceEq, Int.reduceNe, Int.cast_ofNat_Int, Int.natCast_one, Int.natCast_zero, Int.natCast_add, reduceCtorEq]
  refine (CW.wider xm_xq (f30_ok E n c false sz ρ0 (look_prefix hp0 hl) ht hz)).mono ?_
  rintro v ρ1 ⟨hT, hp1⟩
  have hP1 := hp0.trans hp1
  rcases hT with ⟨h1, rfl⟩ | ⟨he, ⟨i0, hi0, hbig⟩, rfl⟩ | ⟨he, hall, tv, rfl, hTB⟩
  · simp only [go_sem, ↓reduceIte, Nat.reduceEqDiff, Nat.reduceAdd, Nat.reduceMul, Nat.reduceLT, Nat.reduceLeDiff, Int.reduceLT, Int.reduceLE, Int.reduceNeg, Int.reduceAdd, Int.reduceSub, Int.reduceMul, Int.reduceToNat, Int.reduceEq, Int.reduceNe, Int.cast_ofNat_Int, Int.natCast_one, Int.natCast_zero, Int.natCast_add, reduceCtorEq, faultV]
    refine (f25_ok XQ E n c false sz _ (look_prefix (hP1.trans (List.prefix_append _ _)) hl) ht hz).mono ?_
    rintro _ ρ2 ⟨rfl, hp2⟩
    have h4 := look_prefix hp2 (show look _ ρ1.length = some _ by rw [look_app_new, look_zero])
    have h4l := look_lt h4
    have hP2 := (hP1.trans (List.prefix_append _ _)).trans hp2
    simp only [go_sem, ↓reduceIte, Nat.reduceEqDiff, Nat.reduceAdd, Nat.reduceMul, Nat.reduceLT, Nat.reduceLeDiff, Int.reduceLT, Int.reduceLE, Int.reduceNeg, Int.reduceAdd, Int.reduceSub, Int.reduceMul, Int.reduceToNat, Int.reduceEq, Int.reduceNe, Int.cast_ofNat_Int, Int.natCast_one, Int.natCast_zero, Int.natCast_add, reduceCtorEq, faultV, look_app_lt h4l, h4, eq_false h1, Int.natCast_zero]
    exact hP2.trans (List.prefix_append _ _)
  · simp only [go_sem, ↓reduceIte, Nat.reduceEqDiff, Nat.reduceAdd, Nat.reduceMul, Nat.reduceLT, Nat.reduceLeDiff, Int.reduceLT, Int.reduceLE, Int.reduceNeg, Int.reduceAdd, Int.reduceSub, Int.reduceMul, Int.reduceToNat, Int.reduceEq, Int.reduceNe, Int.cast_ofNat_Int, Int.natCast_one, Int.natCast_zero, Int.natCast_add, reduceCtorEq, faultV]
    refine (f25_ok XQ E n c false sz _ (look_prefix (hP1.trans (List.prefix_append _ _)) hl) ht hz).mono ?_
    rintro _ ρ2 ⟨rfl, hp2⟩
    have h4 := look_prefix hp2 (show look _ ρ1.length = some _ by rw [look_app_new, look_zero])
    have h4l := look_lt h4
    have hP2 := (hP1.trans (List.prefix_append _ _)).trans hp2
    obtain ⟨he0, he1, he2, he3⟩ := exprFault_zero he
    simp only [go_sem, ↓reduceIte, Nat.reduceEqDiff, Nat.reduceAdd, Nat.reduceMul, Nat.reduceLT, Nat.reduceLeDiff, Int.reduceLT, Int.reduceLE, Int.reduceNeg, Int.reduceAdd, Int.reduceSub, Int.reduceMul, Int.reduceToNat, Int.reduceEq, Int.reduceNe, Int.cast_ofNat_Int, Int.natCast_one, Int.natCast_zero, Int.natCast_add, reduceCtorEq, faultV, look_app_lt h4l, h4, eq_true he]
    refine (f31_ok XQ E n c false sz _ (look_prefix (hP2.trans (List.prefix_append _ _)) hl) he3 he2).mono ?_
    rintro cv ρ3 ⟨hC, hp3⟩
    have h43 := look_prefix ((List.prefix_append _ _).trans hp3) h4
    have hP3 := (hP2.trans (List.prefix_append _ _)).trans hp3
    rcases hC with ⟨h0, _⟩ | ⟨q, cq, rfl, hq1, hq2⟩
    · omega
    simp only [go_sem, ↓reduceIte, Nat.reduceEqDiff, Nat.reduceAdd, Nat.reduceMul, Nat.reduceLT, Nat.reduceLeDiff, Int.reduceLT, Int.reduceLE, Int.reduceNeg, Int.reduceAdd, Int.reduceSub, Int.reduceMul, Int.reduceToNat, Int.reduceEq, Int.reduceNe, Int.cast_ofNat_Int, Int.natCast_one, Int.natCast_zero, Int.natCast_add, reduceCtorEq]
    generalize ρ1.length = p4 at *
    refine LW_run (fun k T ρ => ∃ i : Nat, i + k = E.length ∧ ρ3 = ρ ∧ i ≤ i0 ∧ T 3 = .slice none 0 0 ∧ T 4 = .pointer (some ⟨p4, 0, none⟩) ∧ T 6 = .slice (some ⟨q, 0, none⟩) E.length (cq + 1) ∧ T 7 = .int .i64 i) E.length ⟨0, by simp, rfl, by omega, rfl, rfl, rfl, rfl⟩ ?_
    rintro k T _ ⟨i, hk, rfl, hle, t3, t4, t6, t7⟩
    have hii : ((i : Int) < (E.length : Int)) := by omega
    have hw : IntKind.i64.wrap ((i : Int) + 1) = (i : Int) + 1 := wrap64 (by omega)
    have hcell : ((List.range E.length).map (cntV E))[i]? = some (.int .i64 (cnt E i)) := by
      rw [List.getElem?_map, List.getElem?_range (by omega)]
      rfl
    by_cases h8 : 8000 < cnt E i
    · simp only [go_sem, ↓reduceIte, Nat.reduceEqDiff, Nat.reduceAdd, Nat.reduceMul, Nat.reduceLT, Nat.reduceLeDiff, Int.reduceLT, Int.reduceLE, Int.reduceNeg, Int.reduceAdd, Int.reduceSub, Int.reduceMul, Int.reduceToNat, Int.reduceEq, Int.reduceNe, Int.cast_ofNat_Int, Int.natCast_one, Int.natCast_zero, Int.natCast_add, reduceCtorEq, t3, t4, t6, t7, eq_true hii, hq2, hcell, eq_true h8, h43]
      refine (f20_ok XQ 10 (-3) _).mono ?_
      rintro _ ρ4 ⟨rfl, hp4⟩
      simp only [go_sem, ↓reduceIte, Nat.reduceEqDiff, Nat.reduceAdd, Nat.reduceMul, Nat.reduceLT, Nat.reduceLeDiff, Int.reduceLT, Int.reduceLE, Int.reduceNeg, Int.reduceAdd, Int.reduceSub, Int.reduceMul, Int.reduceToNat, Int.reduceEq, Int.reduceNe, Int.cast_ofNat_Int, Int.natCast_one, Int.natCast_zero, Int.natCast_add, reduceCtorEq, t3, t4, t6, t7, Int.natCast_zero]
      exact ⟨quiet_pre hp4, hP3.trans hp4⟩
    · have hne : i ≠ i0 := by
        rintro rfl
        apply h8
        unfold cnt
        split <;> omega
      simp only [go_sem, ↓reduceIte, Nat.reduceEqDiff, Nat.reduceAdd, Nat.reduceMul, Nat.reduceLT, Nat.reduceLeDiff, Int.reduceLT, Int.reduceLE, Int.reduceNeg, Int.reduceAdd, Int.reduceSub, Int.reduceMul, Int.reduceToNat, Int.reduceEq, Int.reduceNe, Int.cast_ofNat_Int, Int.natCast_one, Int.natCast_zero, Int.natCast_add, reduceCtorEq, t3, t4, t6, t7, eq_true hii, hq2, hcell, eq_false h8, hw]
      refine ⟨k - 1, by omega, i + 1, by omega, ?_⟩
      (repeat' (first | exact rfl | apply And.intro))
      omega
  · simp only [go_sem, ↓reduceIte, Nat.reduceEqDiff, Nat.reduceAdd, Nat.reduceMul, Nat.reduceLT, Nat.reduceLeDiff, Int.reduceLT, Int.reduceLE, Int.reduceNeg, Int.reduceAdd, Int.reduceSub, Int.reduceMul, Int.reduceToNat, Int.reduceEq, Int.reduceNe, Int.cast_ofNat_Int, Int.natCast_one, Int.natCast_zero, Int.natCast_add, reduceCtorEq, faultV]
    refine (f25_ok XQ E n c false sz _ (look_prefix (hP1.trans (List.prefix_append _ _)) hl) ht hz).mono ?_
    rintro _ ρ2 ⟨rfl, hp2⟩
    have h4 := look_prefix hp2 (show look _ ρ1.length = some _ by rw [look_app_new, look_zero])
    have h4l := look_lt h4
    have hP2 := (hP1.trans (List.prefix_append _ _)).trans hp2
    have hTB2 := hTB.mono ((List.prefix_append _ _).trans hp2)
    obtain ⟨he0, he1, he2, he3⟩ := exprFault_zero he
    simp only [go_sem, ↓reduceIte, Nat.reduceEqDiff, Nat.reduceAdd, Nat.reduceMul, Nat.reduceLT, Nat.reduceLeDiff, Int.reduceLT, Int.reduceLE, Int.reduceNeg, Int.reduceAdd, Int.reduceSub, Int.reduceMul, Int.reduceToNat, Int.reduceEq, Int.reduceNe, Int.cast_ofNat_Int, Int.natCast_one, Int.natCast_zero, Int.natCast_add, reduceCtorEq, faultV, look_app_lt h4l, h4, eq_true he]
    refine (f31_ok XQ E n c false sz _ (look_prefix (hP2.trans (List.prefix_append _ _)) hl) he3 he2).mono ?_
    rintro cv ρ3 ⟨hC, hp3⟩
    have h43 := look_prefix ((List.prefix_append _ _).trans hp3) h4
    have hP3 := (hP2.trans (List.prefix_append _ _)).trans hp3
    rcases hC with ⟨h0, _⟩ | ⟨q, cq, rfl, hq1, hq2⟩
    · omega
    simp only [go_sem, ↓reduceIte, Nat.reduceEqDiff, Nat.reduceAdd, Nat.reduceMul, Nat.reduceLT, Nat.reduceLeDiff, Int.reduceLT, Int.reduceLE, Int.reduceNeg, Int.reduceAdd, Int.reduceSub, Int.reduceMul, Int.reduceToNat, Int.reduceEq, Int.reduceNe, Int.cast_ofNat_Int, Int.natCast_one, Int.natCast_zero, Int.natCast_add, reduceCtorEq]
    generalize ρ1.length = p4 at *
    refine LW_run (fun k T ρ => ∃ i : Nat, i + k = E.length ∧ ρ3 = ρ ∧ T 0 = .slice (some ⟨n, 0, none⟩) E.length c ∧ T 3 = tv ∧ T 4 = .pointer (some ⟨p4, 0, none⟩) ∧ T 6 = .slice (some ⟨q, 0, none⟩) E.length (cq + 1) ∧ T 7 = .int .i64 i) E.length ⟨0, by simp, rfl, rfl, rfl, rfl, rfl, rfl⟩ ?_
    rintro k T _ ⟨i, hk, rfl, t0, t3, t4, t6, t7⟩
    by_cases hi : i < E.length
    · have hw : IntKind.i64.wrap ((i : Int) + 1) = (i : Int) + 1 := wrap64 (by omega)
      have hcell : ((List.range E.length).map (cntV E))[i]? = some (.int .i64 (cnt E i)) := by
        rw [List.getElem?_map, List.getElem?_range (by omega)]
        rfl
      have h8 : ¬ 8000 < cnt E i := by
        have := hall i hi
        unfold cnt
        split <;> omega
      simp only [go_sem, ↓reduceIte, Nat.reduceEqDiff, Nat.reduceAdd, Nat.reduceMul, Nat.reduceLT, Nat.reduceLeDiff, Int.reduceLT, Int.reduceLE, Int.reduceNeg, Int.reduceAdd, Int.reduceSub, Int.reduceMul, Int.reduceToNat, Int.reduceEq, Int.reduceNe, Int.cast_ofNat_Int, Int.natCast_one, Int.natCast_zero, Int.natCast_add, reduceCtorEq, t0, t3, t4, t6, t7, eq_true (show (i : Int) < (E.length : Int) by omega), hq2, hcell, eq_false h8, hw]
      refine ⟨k - 1, by omega, i + 1, by omega, ?_⟩
      (repeat' (first | exact rfl | apply And.intro))
    · have hw1 : IntKind.i64.wrap ((E.length : Int) - 1) = ((E.length - 1 : Nat) : Int) := by rw [wrap64 (by omega)]; omega
      simp only [go_sem, ↓reduceIte, Nat.reduceEqDiff, Nat.reduceAdd, Nat.reduceMul, Nat.reduceLT, Nat.reduceLeDiff, Int.reduceLT, Int.reduceLE, Int.reduceNeg, Int.reduceAdd, Int.reduceSub, Int.reduceMul, Int.reduceToNat, Int.reduceEq, Int.reduceNe, Int.cast_ofNat_Int, Int.natCast_one, Int.natCast_zero, Int.natCast_add, reduceCtorEq, t0, t3, t4, t6, t7, eq_false (show ¬ (i : Int) < (E.length : Int) by omega), h43, hw1]
      refine (f33_ok XQ he3 n c false sz he2 E.length (E.length - 1) (by omega) (by omega) (hall _ (by omega)) _ (look_prefix hP3 hl)).mono ?_
      rintro _ ρ4 ⟨⟨q3, d3, rfl, hq3, hlq3⟩, hp4⟩
      simp only [go_sem, ↓reduceIte, Nat.reduceEqDiff, Nat.reduceAdd, Nat.reduceMul, Nat.reduceLT, Nat.reduceLeDiff, Int.reduceLT, Int.reduceLE, Int.reduceNeg, Int.reduceAdd, Int.reduceSub, Int.reduceMul, Int.reduceToNat, Int.reduceEq, Int.reduceNe, Int.cast_ofNat_Int, Int.natCast_one, Int.natCast_zero, Int.natCast_add, reduceCtorEq, t0, t3, t4, t6, t7]
      have h8 := hall (E.length - 1) (by omega)
      refine (f32_tv (toks E (E.length - 1)) (toks E (E.length - 1)) true tv _ _ (.inr (hTB2.mono (((List.prefix_append _ _).trans hp3).trans hp4))) (.inr ⟨q3, d3, true, rfl, hlq3⟩) (by omega) (by omega)).mono ?_
      rintro _ ρ5 ⟨rfl, hp5⟩
      simp only [go_sem, ↓reduceIte, Nat.reduceEqDiff, Nat.reduceAdd, Nat.reduceMul, Nat.reduceLT, Nat.reduceLeDiff, Int.reduceLT, Int.reduceLE, Int.reduceNeg, Int.reduceAdd, Int.reduceSub, Int.reduceMul, Int.reduceToNat, Int.reduceEq, Int.reduceNe, Int.cast_ofNat_Int, Int.natCast_one, Int.natCast_zero, Int.natCast_add, reduceCtorEq, t0, t3, t4, t6, t7]
      exact (hP3.trans hp4).trans hp5
end Go.Proofs.YtkgdkommahgakaaDoor.Abs
