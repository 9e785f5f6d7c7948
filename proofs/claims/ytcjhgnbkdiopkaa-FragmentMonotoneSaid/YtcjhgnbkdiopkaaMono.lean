import Derived.Test.YtcjhgnbkdiopkaaAlig
namespace Go.Proofs.Ytcjhgnbkdiopkaa.Abs
open Go Go.RowKit
set_option linter.unusedVariables false
set_option linter.unusedSimpArgs false
set_option maxRecDepth 100000

theorem nextOff_mono {x : Frag} (hx : x.fine) {b b' : Bool} (hb : b = true → b' = true) {a a' : Int} (h : 0 ≤ a) (ha : a ≤ a') : nextOff x b a ≤ nextOff x b' a' := by
  obtain ⟨h1, h2, h3, h4⟩ := hx
  unfold nextOff
  split
  · omega
  · split
    · rename_i hk
      have hs := h3 hk
      rw [Int.tdiv_eq_ediv_of_nonneg (by omega), Int.tdiv_eq_ediv_of_nonneg (by omega)]
      exact Int.mul_le_mul_of_nonneg_right (Int.ediv_le_ediv (by omega) (by omega)) (by omega)
    · have := h4 (by omega)
      cases b <;> cases b' <;> simp_all <;> omega
theorem offsTo_mono (L : List Frag) (B : List Bool) (hL : ∀ x ∈ L, x.fine) (i : Nat) : ∀ j, (offsTo L B j).2 ≤ (offsTo L (B.set i true) j).2
  | 0 => Int.le_refl _
  | j + 1 => by
    cases hx : L[j]? with
    | none =>
      have := offsTo_mono L B hL i j
      simpa [offsTo, hx] using this
    | some x =>
      rw [offsTo_step hx, offsTo_step hx]
      refine nextOff_mono (hL x (List.mem_of_getElem? hx)) (fun h => ?_) (offsTo_bound L B hL j).1 (offsTo_mono L B hL i j)
      rw [List.getD_eq_getElem?_getD] at h ⊢
      rw [List.getElem?_set]
      split
      · split
        · rfl
        · rename_i h1 h2
          subst h1
          rw [List.getElem?_eq_none (by omega)] at h
          simp at h
      · exact h
theorem offsTo_same (L : List Frag) (B : List Bool) (i : Nat) : ∀ j, j ≤ i → (offsTo L (B.set i true) j).2 = (offsTo L B j).2
  | 0, _ => rfl
  | j + 1, h => by
    have ih := offsTo_same L B i j (by omega)
    cases hx : L[j]? with
    | none => simpa [offsTo, hx] using ih
    | some x =>
      rw [offsTo_step hx, offsTo_step hx, ih]
      congr 1
      rw [List.getD_eq_getElem?_getD, List.getD_eq_getElem?_getD, List.getElem?_set, if_neg (by omega)]

theorem f8_len (X : Ext) (L : List Frag) (B : List Bool) (n c m d lb : Nat) (hlb : lb = B.length) (ow ow' : Bool) (sz sz' : Nat) (σ : Heap) (hl : look σ n = some ⟨L.flatMap Frag.cells, ow, sz⟩) (hb : look σ m = some ⟨B.map .bool, ow', sz'⟩) :
    CW Try.prog X 8 [.slice (some ⟨n, 0, none⟩) L.length c, .slice (some ⟨m, 0, none⟩) lb d] σ fun v σ' => σ <+: σ' ∧ LayV L B σ v σ' := hlb ▸ f8_ok X L B n c m d ow ow' sz sz' σ hl hb
set_option maxHeartbeats 1000000 in
theorem f3_ok (X : Ext) (L : List Frag) (B : List Bool) (i : Int) (n c m d : Nat) (ow ow' : Bool) (sz sz' : Nat) (σ : Heap) (hl : look σ n = some ⟨L.flatMap Frag.cells, ow, sz⟩) (hb : look σ m = some ⟨B.map .bool, ow', sz'⟩) (hBs : B.length * 1 ≤ 140737488351232) (hLs : L.length * 48 ≤ 140737488351232) :
    CW Try.prog X 3 [.slice (some ⟨n, 0, none⟩) L.length c, .slice (some ⟨m, 0, none⟩) B.length d, .int .i64 i] σ fun v σ' => v = .bool true := by
  refine cw_in Try.func3 rfl Try.ntmps3 (rs := [.tmp 6]) rfl (by kernel_rfl) (by exact Nat.le_of_ble_eq_true rfl) ?_
  have hn : n < σ.length := look_lt hl
  have hm : m < σ.length := look_lt hb
  simp only [go_sem, ↓reduceIte, Nat.reduceEqDiff, Nat.reduceAdd, Nat.reduceMul, Nat.reduceLT, Nat.reduceLeDiff, Int.reduceLT, Int.reduceLE, Int.reduceNeg, Int.reduceAdd, Int.reduceSub, Int.reduceMul, Int.reduceToNat, Int.reduceEq, Int.reduceNe, Int.cast_ofNat_Int, Int.natCast_one, Int.natCast_zero, Int.natCast_add, reduceCtorEq]
  refine (f7_ok X _).mono ?_
  rintro _ _ ⟨rfl, τ0, rfl⟩
  simp only [go_sem, ↓reduceIte, Nat.reduceEqDiff, Nat.reduceAdd, Nat.reduceMul, Nat.reduceLT, Nat.reduceLeDiff, Int.reduceLT, Int.reduceLE, Int.reduceNeg, Int.reduceAdd, Int.reduceSub, Int.reduceMul, Int.reduceToNat, Int.reduceEq, Int.reduceNe, Int.cast_ofNat_Int, Int.natCast_one, Int.natCast_zero, Int.natCast_add, reduceCtorEq]
  refine (f8_ok X L B n c m d ow ow' sz sz' _ ((look_app_lt hn).trans hl) ((look_app_lt hm).trans hb)).mono ?_
  rintro v _ ⟨⟨τ1, rfl⟩, ⟨h, rfl⟩ | ⟨h, hBL, rfl⟩ | ⟨h0, hBL, p, c', rfl, hp, hlp⟩⟩
  · simp only [go_sem, ↓reduceIte, Nat.reduceEqDiff, Nat.reduceAdd, Nat.reduceMul, Nat.reduceLT, Nat.reduceLeDiff, Int.reduceLT, Int.reduceLE, Int.reduceNeg, Int.reduceAdd, Int.reduceSub, Int.reduceMul, Int.reduceToNat, Int.reduceEq, Int.reduceNe, Int.cast_ofNat_Int, Int.natCast_one, Int.natCast_zero, Int.natCast_add, reduceCtorEq, faultV, h]
  · simp only [go_sem, ↓reduceIte, Nat.reduceEqDiff, Nat.reduceAdd, Nat.reduceMul, Nat.reduceLT, Nat.reduceLeDiff, Int.reduceLT, Int.reduceLE, Int.reduceNeg, Int.reduceAdd, Int.reduceSub, Int.reduceMul, Int.reduceToNat, Int.reduceEq, Int.reduceNe, Int.cast_ofNat_Int, Int.natCast_one, Int.natCast_zero, Int.natCast_add, reduceCtorEq, faultV]
  obtain ⟨v1, v2, v3⟩ := validate_fine h0
  simp only [go_sem, ↓reduceIte, Nat.reduceEqDiff, Nat.reduceAdd, Nat.reduceMul, Nat.reduceLT, Nat.reduceLeDiff, Int.reduceLT, Int.reduceLE, Int.reduceNeg, Int.reduceAdd, Int.reduceSub, Int.reduceMul, Int.reduceToNat, Int.reduceEq, Int.reduceNe, Int.cast_ofNat_Int, Int.natCast_one, Int.natCast_zero, Int.natCast_add, reduceCtorEq, faultV, wrap64 (show -9223372036854775808 ≤ (L.length : Int) - 1 ∧ (L.length : Int) - 1 ≤ 9223372036854775807 by omega)]
  refine (f9_ok X i 0 _ _).mono ?_
  rintro _ _ ⟨rfl, rfl⟩
  simp only [go_sem, ↓reduceIte, Nat.reduceEqDiff, Nat.reduceAdd, Nat.reduceMul, Nat.reduceLT, Nat.reduceLeDiff, Int.reduceLT, Int.reduceLE, Int.reduceNeg, Int.reduceAdd, Int.reduceSub, Int.reduceMul, Int.reduceToNat, Int.reduceEq, Int.reduceNe, Int.cast_ofNat_Int, Int.natCast_one, Int.natCast_zero, Int.natCast_add, reduceCtorEq]
  by_cases hi : 0 ≤ i ∧ i ≤ (L.length : Int) - 1
  · have hlB : ((B.length : Int) = (L.length : Int)) := by omega
    obtain ⟨i, rfl⟩ : ∃ i' : Nat, i = (i' : Int) := ⟨i.toNat, by omega⟩
    have hs : ∀ l, asrc (σ ++ l) 1 (.slice (some ⟨m, 0, none⟩) B.length d) = some (B.length, B.map .bool) := fun l => by
      rw [src_ptr ((look_app_lt hm).trans hb) (by simp)]
      simp only [List.drop_zero, Nat.mul_one, List.take_of_length_le (show (B.map Value.bool).length ≤ B.length by simp)]
    rw [hBL] at hs
    simp only [go_sem, ↓reduceIte, Nat.reduceEqDiff, Nat.reduceAdd, Nat.reduceMul, Nat.reduceLT, Nat.reduceLeDiff, Int.reduceLT, Int.reduceLE, Int.reduceNeg, Int.reduceAdd, Int.reduceSub, Int.reduceMul, Int.reduceToNat, Int.reduceEq, Int.reduceNe, Int.cast_ofNat_Int, Int.natCast_one, Int.natCast_zero, Int.natCast_add, reduceCtorEq, hi, hs, hBL, show ¬ (L.length : Int) - 1 < (i : Int) by omega, show L.length ≤ 140737488355328 by omega, show (i : Int) < (L.length : Int) by omega, show i + 1 ≤ L.length by omega]
    refine (f8_len X L (B.set i true) n c _ _ _ (by simp [hBL]) ow true sz 1 _ ((look_app_lt hn).trans hl) ?h1).mono ?_
    case h1 =>
      rw [← List.map_set]
      exact (by first | (simp only [go_sem, ↓reduceIte, Nat.reduceEqDiff, Nat.reduceAdd, Nat.reduceMul, Nat.reduceLT, Nat.reduceLeDiff, Int.reduceLT, Int.reduceLE, Int.reduceNeg, Int.reduceAdd, Int.reduceSub, Int.reduceMul, Int.reduceToNat, Int.reduceEq, Int.reduceNe, Int.cast_ofNat_Int, Int.natCast_one, Int.natCast_zero, Int.natCast_add, reduceCtorEq]; done) | (simp only [go_sem, ↓reduceIte, Nat.reduceEqDiff, Nat.reduceAdd, Nat.reduceMul, Nat.reduceLT, Nat.reduceLeDiff, Int.reduceLT, Int.reduceLE, Int.reduceNeg, Int.reduceAdd, Int.reduceSub, Int.reduceMul, Int.reduceToNat, Int.reduceEq, Int.reduceNe, Int.cast_ofNat_Int, Int.natCast_one, Int.natCast_zero, Int.natCast_add, reduceCtorEq]; rfl) | (simp only [go_sem, ↓reduceIte, Nat.reduceEqDiff, Nat.reduceAdd, Nat.reduceMul, Nat.reduceLT, Nat.reduceLeDiff, Int.reduceLT, Int.reduceLE, Int.reduceNeg, Int.reduceAdd, Int.reduceSub, Int.reduceMul, Int.reduceToNat, Int.reduceEq, Int.reduceNe, Int.cast_ofNat_Int, Int.natCast_one, Int.natCast_zero, Int.natCast_add, reduceCtorEq, Nat.add_assoc]; done) | (simp only [go_sem, ↓reduceIte, Nat.reduceEqDiff, Nat.reduceAdd, Nat.reduceMul, Nat.reduceLT, Nat.reduceLeDiff, Int.reduceLT, Int.reduceLE, Int.reduceNeg, Int.reduceAdd, Int.reduceSub, Int.reduceMul, Int.reduceToNat, Int.reduceEq, Int.reduceNe, Int.cast_ofNat_Int, Int.natCast_one, Int.natCast_zero, Int.natCast_add, reduceCtorEq, Nat.add_assoc]; rfl))
    rintro v _ ⟨⟨τ2, rfl⟩, ⟨h, rfl⟩ | ⟨h, hBL2, rfl⟩ | ⟨-, hBL2, p2, c2, rfl, hp2, hlp2⟩⟩
    · exact absurd h0 h
    · exact absurd (by simp [hBL]) hBL2
    simp only [List.append_assoc, List.cons_append, List.nil_append] at hlp hlp2
    simp only [go_sem, ↓reduceIte, Nat.reduceEqDiff, Nat.reduceAdd, Nat.reduceMul, Nat.reduceLT, Nat.reduceLeDiff, Int.reduceLT, Int.reduceLE, Int.reduceNeg, Int.reduceAdd, Int.reduceSub, Int.reduceMul, Int.reduceToNat, Int.reduceEq, Int.reduceNe, Int.cast_ofNat_Int, Int.natCast_one, Int.natCast_zero, Int.natCast_add, reduceCtorEq, faultV, wrap64 (show -9223372036854775808 ≤ (L.length : Int) + 1 ∧ (L.length : Int) + 1 ≤ 9223372036854775807 by omega)]
    generalize hg : (σ ++ (τ0 ++ (τ1 ++ some ⟨[.int .i64 0, .int .i64 0], true, 0⟩ :: some ⟨(B.map Value.bool).set i (.bool true), true, 1⟩ :: (τ2 ++ [some ⟨[.int .i64 0, .int .i64 0], true, 0⟩])))) = σ9
    have g1 : look σ9 p = some ⟨(offsTo L B L.length).1.map (.int .i64), true, 1⟩ := hg ▸ look_prefix (by simp) hlp
    have g2 : look σ9 p2 = some ⟨(offsTo L (B.set i true) L.length).1.map (.int .i64), true, 1⟩ := hg ▸ look_prefix (by simp [List.cons_prefix_cons]) hlp2
    refine LW_run (fun k T σ' => ∃ j : Nat, j + k = L.length + 1 ∧ σ' = σ9 ∧ T 2 = .int .i64 i ∧ T 7 = .slice (some ⟨p, 0, none⟩) (L.length + 1) c' ∧ T 10 = .slice (some ⟨p2, 0, none⟩) (L.length + 1) c2 ∧ T 12 = .int .i64 j) (L.length + 1) ⟨0, by simp, rfl, rfl, rfl, rfl, rfl⟩ ?_
    rintro k T _ ⟨j, hk, rfl, t2, t7, t10, t12⟩
    simp only [go_sem, ↓reduceIte, Nat.reduceEqDiff, Nat.reduceAdd, Nat.reduceMul, Nat.reduceLT, Nat.reduceLeDiff, Int.reduceLT, Int.reduceLE, Int.reduceNeg, Int.reduceAdd, Int.reduceSub, Int.reduceMul, Int.reduceToNat, Int.reduceEq, Int.reduceNe, Int.cast_ofNat_Int, Int.natCast_one, Int.natCast_zero, Int.natCast_add, reduceCtorEq, t2, t7, t10, t12]
    refine fork_dec (fun _ => ?_) (fun _ => ?_)
    · rename_i hj
      have o1 := offsTo_get L B L.length j (by omega) (Nat.le_refl _)
      have o2 := offsTo_get L (B.set i true) L.length j (by omega) (Nat.le_refl _)
      have b1 := offsTo_mono L B v2 i j
      have b2 := offsTo_same L B i j
      generalize (offsTo L B j).2 = a at *
      generalize (offsTo L (B.set i true) j).2 = b at *
      have fin : ∃ j', j' < k ∧ ∃ i' : Nat, i' + j' = L.length + 1 ∧ Value.int IntKind.i64 ((j : Int) + 1) = Value.int IntKind.i64 (i' : Int) := ⟨k - 1, by omega, j + 1, by omega, rfl⟩
      by_cases hji : j ≤ i
      · have b3 := b2 hji
        simp only [go_sem, ↓reduceIte, Nat.reduceEqDiff, Nat.reduceAdd, Nat.reduceMul, Nat.reduceLT, Nat.reduceLeDiff, Int.reduceLT, Int.reduceLE, Int.reduceNeg, Int.reduceAdd, Int.reduceSub, Int.reduceMul, Int.reduceToNat, Int.reduceEq, Int.reduceNe, Int.cast_ofNat_Int, Int.natCast_one, Int.natCast_zero, Int.natCast_add, reduceCtorEq, t2, t7, t10, t12, hj, g1, g2, List.getElem?_map, o1, o2, show ¬ a < a from Int.lt_irrefl a, show (j : Int) ≤ (i : Int) by omega, b3, wrap64 (show -9223372036854775808 ≤ (j : Int) + 1 ∧ (j : Int) + 1 ≤ 9223372036854775807 by omega)]
        exact fin
      · simp only [go_sem, ↓reduceIte, Nat.reduceEqDiff, Nat.reduceAdd, Nat.reduceMul, Nat.reduceLT, Nat.reduceLeDiff, Int.reduceLT, Int.reduceLE, Int.reduceNeg, Int.reduceAdd, Int.reduceSub, Int.reduceMul, Int.reduceToNat, Int.reduceEq, Int.reduceNe, Int.cast_ofNat_Int, Int.natCast_one, Int.natCast_zero, Int.natCast_add, reduceCtorEq, t2, t7, t10, t12, hj, g1, g2, List.getElem?_map, o1, o2, show ¬ b < a by omega, show ¬ (j : Int) ≤ (i : Int) by omega, wrap64 (show -9223372036854775808 ≤ (j : Int) + 1 ∧ (j : Int) + 1 ≤ 9223372036854775807 by omega)]
        exact fin
    · rename_i hj
      simp only [go_sem, ↓reduceIte, Nat.reduceEqDiff, Nat.reduceAdd, Nat.reduceMul, Nat.reduceLT, Nat.reduceLeDiff, Int.reduceLT, Int.reduceLE, Int.reduceNeg, Int.reduceAdd, Int.reduceSub, Int.reduceMul, Int.reduceToNat, Int.reduceEq, Int.reduceNe, Int.cast_ofNat_Int, Int.natCast_one, Int.natCast_zero, Int.natCast_add, reduceCtorEq, hj]
  · simp only [go_sem, ↓reduceIte, Nat.reduceEqDiff, Nat.reduceAdd, Nat.reduceMul, Nat.reduceLT, Nat.reduceLeDiff, Int.reduceLT, Int.reduceLE, Int.reduceNeg, Int.reduceAdd, Int.reduceSub, Int.reduceMul, Int.reduceToNat, Int.reduceEq, Int.reduceNe, Int.cast_ofNat_Int, Int.natCast_one, Int.natCast_zero, Int.natCast_add, reduceCtorEq, hi]
end Go.Proofs.Ytcjhgnbkdiopkaa.Abs
