import Derived.Test.YtcjhgnbkdiopkaaOffs
namespace Go.Proofs.Ytcjhgnbkdiopkaa.Abs
open Go Go.RowKit
set_option linter.unusedVariables false
set_option linter.unusedSimpArgs false
set_option maxRecDepth 100000

theorem ne27a (a b c d : Int) : abin Try.prog .neq 27 (.agg [.int .i64 a, .int .i64 b].toArray) (.agg [.int .i64 c, .int .i64 d].toArray) = (if decide (a = c) = true then (if decide (b = d) = true then some true else some false) else some false).map fun e => .bool (!e) := by kernel_rfl
theorem ne27 {a b c d : Int} : abin Try.prog .neq 27 (.agg [.int .i64 a, .int .i64 b].toArray) (.agg [.int .i64 c, .int .i64 d].toArray) = some (.bool (decide ¬(a = c ∧ b = d))) := by
  rw [ne27a]
  by_cases h : a = c <;> by_cases h2 : b = d <;> simp [h, h2]
theorem g27 {x y : Operand} {a b : Array Value} : aguard Try.prog .neq 27 x y (.agg a) (.agg b) = true := by kernel_rfl
attribute [go_sem] ne27 g27

theorem fval_fine (L : List Frag) (N : Int) : ∀ (l : List Frag) (i : Nat), (fval L N i l).1 = 0 → ∀ x ∈ l, fragErr x N = 0
  | [], _, _, x, hx => by simp at hx
  | y :: l, i, h, x, hx => by
    unfold fval at h
    split at h
    · rename_i hne; exact absurd h hne
    · rename_i hne
      rcases List.mem_cons.1 hx with rfl | hx
      · exact Decidable.not_not.1 hne
      · exact fval_fine L N l (i + 1) h x hx
theorem fval_zero (L : List Frag) (N : Int) : ∀ (l : List Frag) (i : Nat), (fval L N i l).1 = 0 → fval L N i l = (0, 0)
  | [], _, _ => rfl
  | y :: l, i, h => by
    unfold fval at h ⊢
    split at h
    · rename_i hne; exact absurd h hne
    · rename_i hne
      rw [if_neg hne]
      exact fval_zero L N l (i + 1) h
theorem fragErr_fine {x : Frag} {N : Int} (h : fragErr x N = 0) : x.fine := by
  unfold fragErr at h
  unfold Frag.fine
  repeat' split at h
  all_goals first | omega | (refine ⟨?_, ?_, ?_, ?_⟩ <;> omega)
theorem validate_fine {L : List Frag} (h : (validate L).1 = 0) : L.length ≤ 400 ∧ (∀ x ∈ L, x.fine) ∧ validate L = (0, 0) := by
  unfold validate at h ⊢
  split at h
  · simp at h
  · rename_i hl
    rw [if_neg hl]
    exact ⟨by omega, fun x hx => fragErr_fine (fval_fine L _ L 0 h x hx), fval_zero L _ L 0 h⟩
theorem validate_zero {L : List Frag} : (validate L).1 = 0 ∧ (validate L).2 = 0 ↔ (validate L).1 = 0 :=
  ⟨fun h => h.1, fun h => ⟨h, by rw [(validate_fine h).2.2]⟩⟩

/-- What Layout hands back. -/
def LayV (L : List Frag) (B : List Bool) (σ : Heap) (v : Value) (σ' : Heap) : Prop :=
  (validate L).1 ≠ 0 ∧ v = .tuple #[.slice none 0 0, faultV (validate L)] ∨
  (validate L).1 = 0 ∧ B.length ≠ L.length ∧ v = .tuple #[.slice none 0 0, faultV (9, -2)] ∨
  (validate L).1 = 0 ∧ B.length = L.length ∧ ∃ p c', v = .tuple #[.slice (some ⟨p, 0, none⟩) (L.length + 1) c', faultV (0, 0)] ∧ σ.length ≤ p ∧ look σ' p = some ⟨(offsTo L B L.length).1.map (.int .i64), true, 1⟩

set_option maxHeartbeats 1000000 in
theorem f8_ok (X : Ext) (L : List Frag) (B : List Bool) (n c m d : Nat) (ow ow' : Bool) (sz sz' : Nat) (σ : Heap) (hl : look σ n = some ⟨L.flatMap Frag.cells, ow, sz⟩) (hb : look σ m = some ⟨B.map .bool, ow', sz'⟩) :
    CW Try.prog X 8 [.slice (some ⟨n, 0, none⟩) L.length c, .slice (some ⟨m, 0, none⟩) B.length d] σ fun v σ' => σ <+: σ' ∧ LayV L B σ v σ' := by
  refine cw_in Try.func8 rfl Try.ntmps8 (rs := [.tmp 4, .cell 5 27]) rfl (by kernel_rfl) (by exact Nat.le_of_ble_eq_true rfl) ?_
  have hn : n < σ.length := look_lt hl
  have hm : m < σ.length := look_lt hb
  simp only [go_sem, ↓reduceIte, Nat.reduceEqDiff, Nat.reduceAdd, Nat.reduceMul, Nat.reduceLT, Nat.reduceLeDiff, Int.reduceLT, Int.reduceLE, Int.reduceNeg, Int.reduceAdd, Int.reduceSub, Int.reduceMul, Int.reduceToNat, Int.reduceEq, Int.reduceNe, Int.cast_ofNat_Int, Int.natCast_one, Int.natCast_zero, Int.natCast_add, reduceCtorEq]
  refine (f20_ok X L n c ow sz _ ((look_app_lt hn).trans hl)).mono ?_
  rintro _ _ ⟨rfl, τ1, rfl⟩
  simp only [go_sem, ↓reduceIte, Nat.reduceEqDiff, Nat.reduceAdd, Nat.reduceMul, Nat.reduceLT, Nat.reduceLeDiff, Int.reduceLT, Int.reduceLE, Int.reduceNeg, Int.reduceAdd, Int.reduceSub, Int.reduceMul, Int.reduceToNat, Int.reduceEq, Int.reduceNe, Int.cast_ofNat_Int, Int.natCast_one, Int.natCast_zero, Int.natCast_add, reduceCtorEq, faultV]
  refine fork_dec (fun _ => ?_) (fun _ => ?_)
  · rename_i h
    simp only [go_sem, ↓reduceIte, Nat.reduceEqDiff, Nat.reduceAdd, Nat.reduceMul, Nat.reduceLT, Nat.reduceLeDiff, Int.reduceLT, Int.reduceLE, Int.reduceNeg, Int.reduceAdd, Int.reduceSub, Int.reduceMul, Int.reduceToNat, Int.reduceEq, Int.reduceNe, Int.cast_ofNat_Int, Int.natCast_one, Int.natCast_zero, Int.natCast_add, reduceCtorEq, h]
    rw [validate_zero] at h
    exact ⟨quiet_look (by kernel_rfl), List.prefix_append _ _, .inl ⟨h, rfl⟩⟩
  · rename_i h
    have h0 : (validate L).1 = 0 := validate_zero.1 (Decidable.not_not.1 h)
    obtain ⟨v1, v2, v3⟩ := validate_fine h0
    simp only [go_sem, ↓reduceIte, Nat.reduceEqDiff, Nat.reduceAdd, Nat.reduceMul, Nat.reduceLT, Nat.reduceLeDiff, Int.reduceLT, Int.reduceLE, Int.reduceNeg, Int.reduceAdd, Int.reduceSub, Int.reduceMul, Int.reduceToNat, Int.reduceEq, Int.reduceNe, Int.cast_ofNat_Int, Int.natCast_one, Int.natCast_zero, Int.natCast_add, reduceCtorEq, h]
    refine fork_dec (fun _ => ?_) (fun _ => ?_)
    · rename_i h1
      simp only [go_sem, ↓reduceIte, Nat.reduceEqDiff, Nat.reduceAdd, Nat.reduceMul, Nat.reduceLT, Nat.reduceLeDiff, Int.reduceLT, Int.reduceLE, Int.reduceNeg, Int.reduceAdd, Int.reduceSub, Int.reduceMul, Int.reduceToNat, Int.reduceEq, Int.reduceNe, Int.cast_ofNat_Int, Int.natCast_one, Int.natCast_zero, Int.natCast_add, reduceCtorEq, h1]
      exact ⟨List.prefix_append _ _, .inr (.inl ⟨h0, by omega, rfl⟩)⟩
    · rename_i h1
      simp only [go_sem, ↓reduceIte, Nat.reduceEqDiff, Nat.reduceAdd, Nat.reduceMul, Nat.reduceLT, Nat.reduceLeDiff, Int.reduceLT, Int.reduceLE, Int.reduceNeg, Int.reduceAdd, Int.reduceSub, Int.reduceMul, Int.reduceToNat, Int.reduceEq, Int.reduceNe, Int.cast_ofNat_Int, Int.natCast_one, Int.natCast_zero, Int.natCast_add, reduceCtorEq, h1]
      refine (f21_ok X L B n c m d ow ow' sz sz' _ ((look_app_lt hn).trans hl) ((look_app_lt hm).trans hb) v2 v1 (by omega)).mono ?_
      rintro _ _ ⟨p, c', rfl, hp, ⟨τ2, rfl⟩, hlp⟩
      have hp2 : σ.length ≤ p := by simp at hp; omega
      have hp3 : p ≠ σ.length := by simp at hp; omega
      simp only [go_sem, ↓reduceIte, Nat.reduceEqDiff, Nat.reduceAdd, Nat.reduceMul, Nat.reduceLT, Nat.reduceLeDiff, Int.reduceLT, Int.reduceLE, Int.reduceNeg, Int.reduceAdd, Int.reduceSub, Int.reduceMul, Int.reduceToNat, Int.reduceEq, Int.reduceNe, Int.cast_ofNat_Int, Int.natCast_one, Int.natCast_zero, Int.natCast_add, reduceCtorEq]
      refine ⟨List.prefix_append _ _, .inr (.inr ⟨h0, by omega, p, c', rfl, hp2, ?_⟩)⟩
      simpa only [List.append_assoc, List.cons_append, List.nil_append] using hlp

theorem Frag.get (x : Frag) (L : List Frag) (i k : Nat) (h : L[i]? = some x) (hk : k < 6) : (L.flatMap Frag.cells)[i * 6 + k]? = x.cells[k]? := by
  have := Frag.take x L i h
  rw [← this, List.getElem?_take, if_pos hk, List.getElem?_drop]
set_option maxHeartbeats 1000000 in
theorem f25_ok (X : Ext) (L : List Frag) (O : List Int) (i : Nat) (x : Frag) (t : Nat) (a b : Int) (n c m d len : Nat) (ow ow' : Bool) (sz sz' : Nat) (σ : Heap) (hl : look σ n = some ⟨L.flatMap Frag.cells, ow, sz⟩) (hb : look σ m = some ⟨O.map (.int .i64), ow', sz'⟩)
    (hlen : len = O.length) (hi : i ≤ 100000) (hx : L[i]? = some x) (ht : x.target = t) (ha : O[t]? = some a) (hbb : O[i + 1]? = some b) (h1 : -1000000 ≤ a ∧ a ≤ 1000000) (h2 : -1000000 ≤ b ∧ b ≤ 1000000) (h3 : -1000000 ≤ x.add ∧ x.add ≤ 1000000) :
    CW Try.prog X 25 [.slice (some ⟨n, 0, none⟩) L.length c, .slice (some ⟨m, 0, none⟩) len d, .int .i64 i] σ fun v σ' => v = .int .i64 (a + x.add - b) ∧ σ <+: σ' := by
  subst hlen
  have hiL : i < L.length := (List.getElem?_eq_some_iff.1 hx).1
  have htO : t < O.length := (List.getElem?_eq_some_iff.1 ha).1
  have hbO : i + 1 < O.length := (List.getElem?_eq_some_iff.1 hbb).1
  refine cw_in Try.func25 rfl Try.ntmps25 (rs := [.tmp 6]) rfl (by kernel_rfl) (by exact Nat.le_of_ble_eq_true rfl) ?_
  simp only [go_sem, ↓reduceIte, Nat.reduceEqDiff, Nat.reduceAdd, Nat.reduceMul, Nat.reduceLT, Nat.reduceLeDiff, Int.reduceLT, Int.reduceLE, Int.reduceNeg, Int.reduceAdd, Int.reduceSub, Int.reduceMul, Int.reduceToNat, Int.reduceEq, Int.reduceNe, Int.cast_ofNat_Int, Int.natCast_one, Int.natCast_zero, Int.natCast_add, reduceCtorEq, hl, hb, show (i : Int) < L.length by omega, show 0 ≤ (i : Int) + 1 ∧ (i : Int) + 1 < O.length by omega, show ((i : Int) + 1).toNat = i + 1 by omega, show (t : Int) < O.length by omega, Frag.get x L i 4 hx (by omega), Frag.get x L i 5 hx (by omega), Frag.cells, ht, List.getElem?_map, ha, hbb,
    wrap64 (show -9223372036854775808 ≤ (i : Int) + 1 ∧ (i : Int) + 1 ≤ 9223372036854775807 by omega), wrap64 (show -9223372036854775808 ≤ a + x.add ∧ a + x.add ≤ 9223372036854775807 by omega), wrap64 (show -9223372036854775808 ≤ a + x.add - b ∧ a + x.add - b ≤ 9223372036854775807 by omega)]
  exact List.prefix_rfl

theorem f9_ok (X : Ext) (n lo hi : Int) (σ : Heap) : CW Try.prog X 9 [.int .i64 n, .int .i64 lo, .int .i64 hi] σ fun v σ' => v = .bool (decide (lo ≤ n ∧ n ≤ hi)) ∧ σ' = σ := by
  refine cw_in Try.func9 rfl Try.ntmps9 (rs := [.tmp 6]) rfl (by kernel_rfl) (by exact Nat.le_of_ble_eq_true rfl) ?_
  simp only [go_sem, ↓reduceIte, Nat.reduceEqDiff, Nat.reduceAdd, Nat.reduceMul, Nat.reduceLT, Nat.reduceLeDiff, Int.reduceLT, Int.reduceLE, Int.reduceNeg, Int.reduceAdd, Int.reduceSub, Int.reduceMul, Int.reduceToNat, Int.reduceEq, Int.reduceNe, Int.cast_ofNat_Int, Int.natCast_one, Int.natCast_zero, Int.natCast_add, reduceCtorEq]
  refine fork_dec (fun _ => ?_) (fun _ => ?_)
  · rename_i h
    simp only [go_sem, ↓reduceIte, Nat.reduceEqDiff, Nat.reduceAdd, Nat.reduceMul, Nat.reduceLT, Nat.reduceLeDiff, Int.reduceLT, Int.reduceLE, Int.reduceNeg, Int.reduceAdd, Int.reduceSub, Int.reduceMul, Int.reduceToNat, Int.reduceEq, Int.reduceNe, Int.cast_ofNat_Int, Int.natCast_one, Int.natCast_zero, Int.natCast_add, reduceCtorEq, h]
  · rename_i h
    simp only [go_sem, ↓reduceIte, Nat.reduceEqDiff, Nat.reduceAdd, Nat.reduceMul, Nat.reduceLT, Nat.reduceLeDiff, Int.reduceLT, Int.reduceLE, Int.reduceNeg, Int.reduceAdd, Int.reduceSub, Int.reduceMul, Int.reduceToNat, Int.reduceEq, Int.reduceNe, Int.cast_ofNat_Int, Int.natCast_one, Int.natCast_zero, Int.natCast_add, reduceCtorEq, h]

set_option maxHeartbeats 1000000 in
theorem f15_ok (X : Ext) (A B : List Int) (n c m d la lb : Nat) (ow ow' : Bool) (sz sz' : Nat) (σ : Heap) (ha : look σ n = some ⟨A.map (.int .i64), ow, sz⟩) (hb : look σ m = some ⟨B.map (.int .i64), ow', sz'⟩) (hla : la = A.length) (hlb : lb = B.length) (hA : A.length ≤ 1000000) :
    CW Try.prog X 15 [.slice (some ⟨n, 0, none⟩) la c, .slice (some ⟨m, 0, none⟩) lb d] σ fun v σ' => v = .bool (decide (A = B)) ∧ σ' = σ := by
  subst hla; subst hlb
  refine cw_in Try.func15 rfl Try.ntmps15 (rs := [.tmp 4]) rfl (by kernel_rfl) (by exact Nat.le_of_ble_eq_true rfl) ?_
  simp only [go_sem, ↓reduceIte, Nat.reduceEqDiff, Nat.reduceAdd, Nat.reduceMul, Nat.reduceLT, Nat.reduceLeDiff, Int.reduceLT, Int.reduceLE, Int.reduceNeg, Int.reduceAdd, Int.reduceSub, Int.reduceMul, Int.reduceToNat, Int.reduceEq, Int.reduceNe, Int.cast_ofNat_Int, Int.natCast_one, Int.natCast_zero, Int.natCast_add, reduceCtorEq]
  refine fork_dec (fun _ => ?_) (fun _ => ?_)
  · rename_i h
    simp only [go_sem, ↓reduceIte, Nat.reduceEqDiff, Nat.reduceAdd, Nat.reduceMul, Nat.reduceLT, Nat.reduceLeDiff, Int.reduceLT, Int.reduceLE, Int.reduceNeg, Int.reduceAdd, Int.reduceSub, Int.reduceMul, Int.reduceToNat, Int.reduceEq, Int.reduceNe, Int.cast_ofNat_Int, Int.natCast_one, Int.natCast_zero, Int.natCast_add, reduceCtorEq, h]
    refine congrArg _ (Eq.symm (decide_eq_false fun e => h (by rw [e])))
  · rename_i h
    simp only [go_sem, ↓reduceIte, Nat.reduceEqDiff, Nat.reduceAdd, Nat.reduceMul, Nat.reduceLT, Nat.reduceLeDiff, Int.reduceLT, Int.reduceLE, Int.reduceNeg, Int.reduceAdd, Int.reduceSub, Int.reduceMul, Int.reduceToNat, Int.reduceEq, Int.reduceNe, Int.cast_ofNat_Int, Int.natCast_one, Int.natCast_zero, Int.natCast_add, reduceCtorEq, h]
    have hlen : A.length = B.length := by omega
    refine LW_run (fun k T σ' => ∃ i : Nat, i + k = A.length ∧ σ' = σ ∧ T 0 = .slice (some ⟨n, 0, none⟩) A.length c ∧ T 1 = .slice (some ⟨m, 0, none⟩) B.length d ∧ T 5 = .int .i64 i ∧ A.take i = B.take i) A.length ⟨0, by simp, rfl, rfl, rfl, rfl, rfl⟩ ?_
    rintro k T _ ⟨i, hk, rfl, h0, h1, h5, hv⟩
    simp only [go_sem, ↓reduceIte, Nat.reduceEqDiff, Nat.reduceAdd, Nat.reduceMul, Nat.reduceLT, Nat.reduceLeDiff, Int.reduceLT, Int.reduceLE, Int.reduceNeg, Int.reduceAdd, Int.reduceSub, Int.reduceMul, Int.reduceToNat, Int.reduceEq, Int.reduceNe, Int.cast_ofNat_Int, Int.natCast_one, Int.natCast_zero, Int.natCast_add, reduceCtorEq, h0, h1, h5]
    refine fork_dec (fun _ => ?_) (fun _ => ?_)
    · rename_i hi
      obtain ⟨x, hx⟩ : ∃ x, A[i]? = some x := ⟨A[i]'(by omega), List.getElem?_eq_getElem _⟩
      obtain ⟨y, hy⟩ : ∃ y, B[i]? = some y := ⟨B[i]'(by omega), List.getElem?_eq_getElem _⟩
      simp only [go_sem, ↓reduceIte, Nat.reduceEqDiff, Nat.reduceAdd, Nat.reduceMul, Nat.reduceLT, Nat.reduceLeDiff, Int.reduceLT, Int.reduceLE, Int.reduceNeg, Int.reduceAdd, Int.reduceSub, Int.reduceMul, Int.reduceToNat, Int.reduceEq, Int.reduceNe, Int.cast_ofNat_Int, Int.natCast_one, Int.natCast_zero, Int.natCast_add, reduceCtorEq, h0, h1, h5, hi, show (i : Int) < B.length by omega, ha, hb, List.getElem?_map, hx, hy]
      refine fork_dec (fun _ => ?_) (fun _ => ?_)
      · rename_i he
        simp only [go_sem, ↓reduceIte, Nat.reduceEqDiff, Nat.reduceAdd, Nat.reduceMul, Nat.reduceLT, Nat.reduceLeDiff, Int.reduceLT, Int.reduceLE, Int.reduceNeg, Int.reduceAdd, Int.reduceSub, Int.reduceMul, Int.reduceToNat, Int.reduceEq, Int.reduceNe, Int.cast_ofNat_Int, Int.natCast_one, Int.natCast_zero, Int.natCast_add, reduceCtorEq, he]
        refine congrArg _ (Eq.symm (decide_eq_false fun e => he ?_))
        rw [e, hy] at hx
        exact (Option.some.inj hx).symm
      · rename_i he
        simp only [go_sem, ↓reduceIte, Nat.reduceEqDiff, Nat.reduceAdd, Nat.reduceMul, Nat.reduceLT, Nat.reduceLeDiff, Int.reduceLT, Int.reduceLE, Int.reduceNeg, Int.reduceAdd, Int.reduceSub, Int.reduceMul, Int.reduceToNat, Int.reduceEq, Int.reduceNe, Int.cast_ofNat_Int, Int.natCast_one, Int.natCast_zero, Int.natCast_add, reduceCtorEq, h0, h1, h5, he, wrap64 (show -9223372036854775808 ≤ (i : Int) + 1 ∧ (i : Int) + 1 ≤ 9223372036854775807 by omega)]
        refine ⟨k - 1, by omega, i + 1, by omega, rfl, ?_⟩
        rw [List.take_add_one, List.take_add_one, hv, hx, hy, Decidable.not_not.1 he]
    · rename_i hi
      simp only [go_sem, ↓reduceIte, Nat.reduceEqDiff, Nat.reduceAdd, Nat.reduceMul, Nat.reduceLT, Nat.reduceLeDiff, Int.reduceLT, Int.reduceLE, Int.reduceNeg, Int.reduceAdd, Int.reduceSub, Int.reduceMul, Int.reduceToNat, Int.reduceEq, Int.reduceNe, Int.cast_ofNat_Int, Int.natCast_one, Int.natCast_zero, Int.natCast_add, reduceCtorEq, h0, h1, h5, hi]
      refine congrArg _ (Eq.symm (decide_eq_true ?_))
      have e : i = A.length := by omega
      rw [List.take_of_length_le (by omega), List.take_of_length_le (by omega)] at hv
      exact hv
end Go.Proofs.Ytcjhgnbkdiopkaa.Abs
