import Derived.Test.YtcjhgnbkdiopkaaLawRel
namespace Go.Proofs.Ytcjhgnbkdiopkaa.Abs
open Go Go.RowKit
set_option linter.unusedVariables false
set_option linter.unusedSimpArgs false
set_option maxRecDepth 100000

/-! ### the plain law: distances grow, and what is far stays far -/
/-- A fragment's size, without alignments. -/
def szOf (x : Frag) (b : Bool) : Int := if x.kind = 1 then x.size else if b then x.long else x.short
theorem nextOff_sz {x : Frag} (h : x.kind ≠ 2) (b : Bool) (a : Int) : nextOff x b a = a + szOf x b := by
  unfold nextOff szOf
  by_cases h1 : x.kind = 1
  · simp [h1]
  · cases b <;> simp [h1, h]
/-- What a list of fragments and a longer one have in common. -/
structure Grown (L L' : List Frag) : Prop where
  len : L.length = L'.length
  get : ∀ (j : Nat) (x : Frag), L[j]? = some x → x.kind ≠ 2 ∧ (x.kind = 3 → x.add = 0) ∧ x.fine ∧ ∃ x' : Frag, L'[j]? = some x' ∧ x'.kind = x.kind ∧ x'.target = x.target ∧ x'.add = x.add ∧ x'.short = x.short ∧ x'.long = x.long ∧ x.size ≤ x'.size ∧ (x.kind = 3 → 0 ≤ x.target ∧ x.target ≤ L.length)
def LeB (A A' : List Bool) : Prop := ∀ j, A.getD j false = true → A'.getD j false = true
theorem sz_grown {x x' : Frag} (hf : x.fine) (h1 : x'.kind = x.kind) (h2 : x'.short = x.short) (h3 : x'.long = x.long) (h4 : x.size ≤ x'.size) (h5 : x.kind ≠ 2) {b b' : Bool} (hb : b = true → b' = true) : 0 ≤ szOf x b ∧ szOf x b ≤ szOf x' b' := by
  obtain ⟨f1, f2, f3, f4⟩ := hf
  unfold szOf
  rw [h1, h2, h3]
  by_cases hk : x.kind = 1
  · simp only [hk, if_true]; omega
  · have := f4 (by omega)
    simp only [hk, if_false]
    cases b <;> cases b' <;> simp_all <;> omega
theorem offs_grown {L L' : List Frag} (hG : Grown L L') {A A' : List Bool} (hA : LeB A A') (j : Nat) : ∀ d, j + d ≤ L.length → 0 ≤ (offsTo L A (j + d)).2 - (offsTo L A j).2 ∧ (offsTo L A (j + d)).2 - (offsTo L A j).2 ≤ (offsTo L' A' (j + d)).2 - (offsTo L' A' j).2
  | 0, _ => by simp
  | d + 1, h => by
    have ih := offs_grown hG hA j d (by omega)
    obtain ⟨x, hx⟩ : ∃ x, L[j + d]? = some x := ⟨L[j + d]'(by omega), List.getElem?_eq_getElem _⟩
    obtain ⟨g1, g2, g3, x', hx', g4, g5, g6, g7, g8, g9, g10⟩ := hG.get _ x hx
    rw [show j + (d + 1) = (j + d) + 1 by omega, offsTo_step hx, offsTo_step hx', nextOff_sz g1, nextOff_sz (by rw [g4]; exact g1)]
    have := sz_grown g3 g4 g7 g8 g9 g1 (hA (j + d))
    omega
theorem far_grown {L L' : List Frag} (hG : Grown L L') {A A' : List Bool} (hA : LeB A A') {i : Nat} {x x' : Frag} (hx : L[i]? = some x) (hx' : L'[i]? = some x') (hk : x.kind = 3) (hf : far L A x i = true) : far L' A' x' i = true := by
  have hi := (List.getElem?_eq_some_iff.1 hx).1
  obtain ⟨g1, g2, g3, y, hy, g4, g5, g6, g7, g8, g9, g10⟩ := hG.get _ x hx
  rw [hx'] at hy
  obtain rfl := Option.some.inj hy
  have ha := g2 hk
  obtain ⟨t1, t2⟩ := g10 hk
  unfold far dist at hf ⊢
  rw [g5, g6, ha]
  rw [ha] at hf
  simp only [Bool.or_eq_true, decide_eq_true_eq] at hf ⊢
  rcases Nat.le_total (i + 1) x.target.toNat with h | h
  · have := offs_grown hG hA (i + 1) (x.target.toNat - (i + 1)) (by omega)
    rw [show i + 1 + (x.target.toNat - (i + 1)) = x.target.toNat by omega] at this
    omega
  · have := offs_grown hG hA x.target.toNat (i + 1 - x.target.toNat) (by omega)
    rw [show x.target.toNat + (i + 1 - x.target.toNat) = i + 1 by omega] at this
    omega
theorem getD_set (A : List Bool) (i j : Nat) (b : Bool) : (A.set i b).getD j false = if i = j ∧ j < A.length then b else A.getD j false := by
  rw [List.getD_eq_getElem?_getD, List.getD_eq_getElem?_getD, List.getElem?_set]
  by_cases h : i = j
  · subst h
    by_cases h2 : i < A.length
    · simp [h2]
    · simp [h2]
  · simp [h]
theorem step_grown {L L' : List Frag} (hG : Grown L L') {A A' : List Bool} (hA : LeB A A') (hl : A.length = A'.length) : ∀ i, i ≤ L.length → LeB (stepTo L A i) (stepTo L' A' i)
  | 0, _ => hA
  | i + 1, h => by
    have ih := step_grown hG hA hl i (by omega)
    obtain ⟨x, hx⟩ : ∃ x, L[i]? = some x := ⟨L[i]'(by omega), List.getElem?_eq_getElem _⟩
    obtain ⟨g1, g2, g3, x', hx', g4, g5, g6, g7, g8, g9, g10⟩ := hG.get _ x hx
    unfold stepTo
    rw [hx, hx']
    simp only [g4]
    split
    · rename_i hk
      intro j hj
      rw [getD_set, stepTo_len] at hj ⊢
      rw [← hl]
      split at hj
      · rename_i hc
        rw [if_pos hc]
        rw [Bool.or_eq_true] at hj ⊢
        rcases hj with hj | hj
        · exact .inl (hA i hj)
        · exact .inr (far_grown hG hA hx hx' hk hj)
      · rename_i hc
        rw [if_neg hc]
        exact ih j hj
    · exact ih
theorem iter_grown {L L' : List Frag} (hG : Grown L L') : ∀ m, LeB (iter L m) (iter L' m)
  | 0 => fun j hj => by
    unfold iter startF at hj ⊢
    rw [← hG.len]
    exact hj
  | m + 1 => by
    have := step_grown hG (iter_grown hG m) (by rw [iter_len, iter_len]; exact hG.len) L.length (Nat.le_refl _)
    unfold iter
    rw [← hG.len]
    exact this
theorem fix_grown {L L' : List Frag} (hG : Grown L L') {m m' : Nat} (h : iter L (m + 1) = iter L m) (h' : iter L' (m' + 1) = iter L' m') : LeB (iter L m) (iter L' m') := by
  have h1 := iter_fix h (m' : Nat)
  have h2 := iter_fix h' (m : Nat)
  have := iter_grown hG (m + m')
  rw [h1, Nat.add_comm, h2] at this
  exact this

theorem Frag.set (x : Frag) (v : Int) : ∀ (L : List Frag) (i : Nat), L[i]? = some x → (L.flatMap Frag.cells).set (i * 6 + 1) (.int .i64 v) = (L.set i { x with size := v }).flatMap Frag.cells
  | [], i, h => by simp at h
  | y :: L, 0, h => by
    simp only [List.getElem?_cons_zero, Option.some.injEq] at h
    subst h
    simp [Frag.cells]
  | y :: L, i + 1, h => by
    simp only [List.getElem?_cons_succ] at h
    rw [List.flatMap_cons, List.set_cons_succ, List.flatMap_cons, List.set_append_right _ _ (by simp [Frag.cells]; omega), ← Frag.set x v L i h]
    congr 2
    simp [Frag.cells]
    omega

theorem f17_ok (X : Ext) (L : List Frag) (n c : Nat) (ow : Bool) (sz : Nat) (σ : Heap) (hl : look σ n = some ⟨L.flatMap Frag.cells, ow, sz⟩) (hz : L.length * 48 ≤ 140737488351232) :
    CW Try.prog X 17 [.slice (some ⟨n, 0, none⟩) L.length c] σ fun v σ' => ∃ b, v = .bool b ∧ (b = false → ∀ x ∈ L, x.kind ≠ 2) ∧ σ' = σ := by
  refine cw_in Try.func17 rfl Try.ntmps17 (rs := [.tmp 2]) rfl (by kernel_rfl) (by exact Nat.le_of_ble_eq_true rfl) ?_
  simp only [go_sem, ↓reduceIte, Nat.reduceEqDiff, Nat.reduceAdd, Nat.reduceMul, Nat.reduceLT, Nat.reduceLeDiff, Int.reduceLT, Int.reduceLE, Int.reduceNeg, Int.reduceAdd, Int.reduceSub, Int.reduceMul, Int.reduceToNat, Int.reduceEq, Int.reduceNe, Int.cast_ofNat_Int, Int.natCast_one, Int.natCast_zero, Int.natCast_add, reduceCtorEq]
  refine LW_run (fun k T σ' => ∃ i : Nat, i + k = L.length ∧ σ' = σ ∧ T 0 = .slice (some ⟨n, 0, none⟩) L.length c ∧ T 3 = .int .i64 i ∧ ∀ x ∈ L.take i, x.kind ≠ 2) L.length ⟨0, by simp, rfl, rfl, rfl, by simp⟩ ?_
  rintro k T _ ⟨i, hk, rfl, t0, t3, hv⟩
  simp only [go_sem, ↓reduceIte, Nat.reduceEqDiff, Nat.reduceAdd, Nat.reduceMul, Nat.reduceLT, Nat.reduceLeDiff, Int.reduceLT, Int.reduceLE, Int.reduceNeg, Int.reduceAdd, Int.reduceSub, Int.reduceMul, Int.reduceToNat, Int.reduceEq, Int.reduceNe, Int.cast_ofNat_Int, Int.natCast_one, Int.natCast_zero, Int.natCast_add, reduceCtorEq, t0, t3]
  refine fork_dec (fun _ => ?_) (fun _ => ?_)
  · rename_i hi
    obtain ⟨x, hx⟩ : ∃ x, L[i]? = some x := ⟨L[i]'(by omega), List.getElem?_eq_getElem _⟩
    have g0 : (L.flatMap Frag.cells)[i * 6]? = x.cells[0]? := by simpa using Frag.get x L i 0 hx (by omega)
    simp only [go_sem, ↓reduceIte, Nat.reduceEqDiff, Nat.reduceAdd, Nat.reduceMul, Nat.reduceLT, Nat.reduceLeDiff, Int.reduceLT, Int.reduceLE, Int.reduceNeg, Int.reduceAdd, Int.reduceSub, Int.reduceMul, Int.reduceToNat, Int.reduceEq, Int.reduceNe, Int.cast_ofNat_Int, Int.natCast_one, Int.natCast_zero, Int.natCast_add, reduceCtorEq, t0, t3, hi, hl, g0, Frag.cells]
    refine fork_dec (fun _ => ?_) (fun _ => ?_)
    · rename_i hk2
      simp only [go_sem, ↓reduceIte, Nat.reduceEqDiff, Nat.reduceAdd, Nat.reduceMul, Nat.reduceLT, Nat.reduceLeDiff, Int.reduceLT, Int.reduceLE, Int.reduceNeg, Int.reduceAdd, Int.reduceSub, Int.reduceMul, Int.reduceToNat, Int.reduceEq, Int.reduceNe, Int.cast_ofNat_Int, Int.natCast_one, Int.natCast_zero, Int.natCast_add, reduceCtorEq, hk2]
      exact ⟨true, rfl, by simp⟩
    · rename_i hk2
      simp only [go_sem, ↓reduceIte, Nat.reduceEqDiff, Nat.reduceAdd, Nat.reduceMul, Nat.reduceLT, Nat.reduceLeDiff, Int.reduceLT, Int.reduceLE, Int.reduceNeg, Int.reduceAdd, Int.reduceSub, Int.reduceMul, Int.reduceToNat, Int.reduceEq, Int.reduceNe, Int.cast_ofNat_Int, Int.natCast_one, Int.natCast_zero, Int.natCast_add, reduceCtorEq, t0, t3, hk2, wrap64 (show -9223372036854775808 ≤ (i : Int) + 1 ∧ (i : Int) + 1 ≤ 9223372036854775807 by omega)]
      refine ⟨k - 1, by omega, i + 1, by omega, rfl, fun y hy => ?_⟩
      rw [List.take_add_one, hx] at hy
      rcases List.mem_append.1 hy with hy | hy
      · exact hv y hy
      · simp at hy; subst hy; exact hk2
  · rename_i hi
    simp only [go_sem, ↓reduceIte, Nat.reduceEqDiff, Nat.reduceAdd, Nat.reduceMul, Nat.reduceLT, Nat.reduceLeDiff, Int.reduceLT, Int.reduceLE, Int.reduceNeg, Int.reduceAdd, Int.reduceSub, Int.reduceMul, Int.reduceToNat, Int.reduceEq, Int.reduceNe, Int.cast_ofNat_Int, Int.natCast_one, Int.natCast_zero, Int.natCast_add, reduceCtorEq, t0, t3, hi]
    refine ⟨false, rfl, fun _ => ?_⟩
    rw [List.take_of_length_le (by omega)] at hv
    exact hv
theorem f18_ok (X : Ext) (L : List Frag) (n c : Nat) (ow : Bool) (sz : Nat) (σ : Heap) (hl : look σ n = some ⟨L.flatMap Frag.cells, ow, sz⟩) (hz : L.length * 48 ≤ 140737488351232) :
    CW Try.prog X 18 [.slice (some ⟨n, 0, none⟩) L.length c] σ fun v σ' => ∃ b, v = .bool b ∧ (b = false → ∀ x ∈ L, x.kind = 3 → x.add = 0) ∧ σ' = σ := by
  refine cw_in Try.func18 rfl Try.ntmps18 (rs := [.tmp 2]) rfl (by kernel_rfl) (by exact Nat.le_of_ble_eq_true rfl) ?_
  simp only [go_sem, ↓reduceIte, Nat.reduceEqDiff, Nat.reduceAdd, Nat.reduceMul, Nat.reduceLT, Nat.reduceLeDiff, Int.reduceLT, Int.reduceLE, Int.reduceNeg, Int.reduceAdd, Int.reduceSub, Int.reduceMul, Int.reduceToNat, Int.reduceEq, Int.reduceNe, Int.cast_ofNat_Int, Int.natCast_one, Int.natCast_zero, Int.natCast_add, reduceCtorEq]
  refine LW_run (fun k T σ' => ∃ i : Nat, i + k = L.length ∧ σ' = σ ∧ T 0 = .slice (some ⟨n, 0, none⟩) L.length c ∧ T 3 = .int .i64 i ∧ ∀ x ∈ L.take i, x.kind = 3 → x.add = 0) L.length ⟨0, by simp, rfl, rfl, rfl, by simp⟩ ?_
  rintro k T _ ⟨i, hk, rfl, t0, t3, hv⟩
  simp only [go_sem, ↓reduceIte, Nat.reduceEqDiff, Nat.reduceAdd, Nat.reduceMul, Nat.reduceLT, Nat.reduceLeDiff, Int.reduceLT, Int.reduceLE, Int.reduceNeg, Int.reduceAdd, Int.reduceSub, Int.reduceMul, Int.reduceToNat, Int.reduceEq, Int.reduceNe, Int.cast_ofNat_Int, Int.natCast_one, Int.natCast_zero, Int.natCast_add, reduceCtorEq, t0, t3]
  refine fork_dec (fun _ => ?_) (fun _ => ?_)
  · rename_i hi
    obtain ⟨x, hx⟩ : ∃ x, L[i]? = some x := ⟨L[i]'(by omega), List.getElem?_eq_getElem _⟩
    have g0 : (L.flatMap Frag.cells)[i * 6]? = x.cells[0]? := by simpa using Frag.get x L i 0 hx (by omega)
    have next : (x.kind = 3 → x.add = 0) → ∀ y ∈ L.take (i + 1), y.kind = 3 → y.add = 0 := fun hq y hy => by
      rw [List.take_add_one, hx] at hy
      rcases List.mem_append.1 hy with hy | hy
      · exact hv y hy
      · simp at hy; subst hy; exact hq
    simp only [go_sem, ↓reduceIte, Nat.reduceEqDiff, Nat.reduceAdd, Nat.reduceMul, Nat.reduceLT, Nat.reduceLeDiff, Int.reduceLT, Int.reduceLE, Int.reduceNeg, Int.reduceAdd, Int.reduceSub, Int.reduceMul, Int.reduceToNat, Int.reduceEq, Int.reduceNe, Int.cast_ofNat_Int, Int.natCast_one, Int.natCast_zero, Int.natCast_add, reduceCtorEq, t0, t3, hi, hl, g0, Frag.cells]
    by_cases hk3 : x.kind = 3
    · by_cases ha : x.add = 0
      · simp only [go_sem, ↓reduceIte, Nat.reduceEqDiff, Nat.reduceAdd, Nat.reduceMul, Nat.reduceLT, Nat.reduceLeDiff, Int.reduceLT, Int.reduceLE, Int.reduceNeg, Int.reduceAdd, Int.reduceSub, Int.reduceMul, Int.reduceToNat, Int.reduceEq, Int.reduceNe, Int.cast_ofNat_Int, Int.natCast_one, Int.natCast_zero, Int.natCast_add, reduceCtorEq, t0, t3, hi, hl, Frag.get x L i 5 hx (by omega), Frag.cells, hk3, ha, wrap64 (show -9223372036854775808 ≤ (i : Int) + 1 ∧ (i : Int) + 1 ≤ 9223372036854775807 by omega)]
        exact ⟨k - 1, by omega, i + 1, by omega, rfl, next fun _ => ha⟩
      · simp only [go_sem, ↓reduceIte, Nat.reduceEqDiff, Nat.reduceAdd, Nat.reduceMul, Nat.reduceLT, Nat.reduceLeDiff, Int.reduceLT, Int.reduceLE, Int.reduceNeg, Int.reduceAdd, Int.reduceSub, Int.reduceMul, Int.reduceToNat, Int.reduceEq, Int.reduceNe, Int.cast_ofNat_Int, Int.natCast_one, Int.natCast_zero, Int.natCast_add, reduceCtorEq, t0, t3, hi, hl, Frag.get x L i 5 hx (by omega), Frag.cells, hk3, ha]
        exact ⟨true, rfl, by simp⟩
    · simp only [go_sem, ↓reduceIte, Nat.reduceEqDiff, Nat.reduceAdd, Nat.reduceMul, Nat.reduceLT, Nat.reduceLeDiff, Int.reduceLT, Int.reduceLE, Int.reduceNeg, Int.reduceAdd, Int.reduceSub, Int.reduceMul, Int.reduceToNat, Int.reduceEq, Int.reduceNe, Int.cast_ofNat_Int, Int.natCast_one, Int.natCast_zero, Int.natCast_add, reduceCtorEq, t0, t3, hi, hk3, wrap64 (show -9223372036854775808 ≤ (i : Int) + 1 ∧ (i : Int) + 1 ≤ 9223372036854775807 by omega)]
      exact ⟨k - 1, by omega, i + 1, by omega, rfl, next fun h => absurd h hk3⟩
  · rename_i hi
    simp only [go_sem, ↓reduceIte, Nat.reduceEqDiff, Nat.reduceAdd, Nat.reduceMul, Nat.reduceLT, Nat.reduceLeDiff, Int.reduceLT, Int.reduceLE, Int.reduceNeg, Int.reduceAdd, Int.reduceSub, Int.reduceMul, Int.reduceToNat, Int.reduceEq, Int.reduceNe, Int.cast_ofNat_Int, Int.natCast_one, Int.natCast_zero, Int.natCast_add, reduceCtorEq, t0, t3, hi]
    refine ⟨false, rfl, fun _ => ?_⟩
    rw [List.take_of_length_le (by omega)] at hv
    exact hv
end Go.Proofs.Ytcjhgnbkdiopkaa.Abs
