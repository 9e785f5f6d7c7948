import Derived.Test.YtcjhgnbkdiopkaaFrag
namespace Go.Proofs.Ytcjhgnbkdiopkaa.Abs
open Go Go.RowKit
set_option linter.unusedVariables false
set_option linter.unusedSimpArgs false
set_option maxRecDepth 100000

/-- The next offset. -/
def nextOff (x : Frag) (b : Bool) (at_ : Int) : Int :=
  if x.kind = 1 then at_ + x.size else if x.kind = 2 then ((at_ + x.size - 1).tdiv x.size) * x.size else if b then at_ + x.long else at_ + x.short
def offs : Int → List Frag → List Bool → List Int
  | a, [], _ => [a]
  | a, x :: L, b :: B => a :: offs (nextOff x b a) L B
  | a, _ :: _, [] => [a]
/-- Offsets, begun: those so far, and the next. -/
def offsTo (L : List Frag) (B : List Bool) : Nat → List Int × Int
  | 0 => ([0], 0)
  | i + 1 => match L[i]? with
    | some x => let r := offsTo L B i; let a := nextOff x (B.getD i false) r.2; (r.1 ++ [a], a)
    | none => offsTo L B i
/-- What a valid fragment's size is. -/
def Frag.fine (x : Frag) : Prop := (1 ≤ x.kind ∧ x.kind ≤ 3) ∧ (0 ≤ x.size ∧ x.size ≤ 1500) ∧ (x.kind = 2 → 1 ≤ x.size) ∧ (x.kind = 3 → 1 ≤ x.short ∧ x.short < x.long ∧ x.long ≤ 8)

theorem nextOff_le {x : Frag} (hx : x.fine) (b : Bool) {a : Int} (h : 0 ≤ a) : a ≤ nextOff x b a ∧ nextOff x b a ≤ a + 1500 := by
  obtain ⟨h1, h2, h3, h4⟩ := hx
  unfold nextOff
  split
  · omega
  · split
    · rename_i hk
      have hs := h3 hk
      have e : (a + x.size - 1).tdiv x.size = (a + x.size - 1) / x.size := Int.tdiv_eq_ediv_of_nonneg (by omega)
      rw [e]
      have h5 := Int.ediv_mul_le (a + x.size - 1) (show x.size ≠ 0 by omega)
      have h6 := Int.lt_ediv_add_one_mul_self (a + x.size - 1) (show 0 < x.size by omega)
      rw [Int.add_mul, Int.one_mul] at h6
      omega
    · have := h4 (by omega)
      split <;> omega
theorem offsTo_bound (L : List Frag) (B : List Bool) (hL : ∀ x ∈ L, x.fine) : ∀ i, 0 ≤ (offsTo L B i).2 ∧ (offsTo L B i).2 ≤ i * 1500
  | 0 => by simp [offsTo]
  | i + 1 => by
    have ih := offsTo_bound L B hL i
    unfold offsTo
    cases hx : L[i]? with
    | none => simp only; omega
    | some x =>
      simp only
      have := nextOff_le (hL x (List.mem_of_getElem? hx)) (B.getD i false) ih.1
      omega

theorem offsTo_len (L : List Frag) (B : List Bool) : ∀ i, i ≤ L.length → (offsTo L B i).1.length = i + 1
  | 0, _ => rfl
  | i + 1, h => by
    unfold offsTo
    rw [List.getElem?_eq_getElem (by omega : i < L.length)]
    simp [offsTo_len L B i (by omega)]
set_option maxHeartbeats 1000000 in
theorem f21_ok (X : Ext) (L : List Frag) (B : List Bool) (n c m d : Nat) (ow ow' : Bool) (sz sz' : Nat) (σ : Heap) (hl : look σ n = some ⟨L.flatMap Frag.cells, ow, sz⟩) (hb : look σ m = some ⟨B.map .bool, ow', sz'⟩)
    (hL : ∀ x ∈ L, x.fine) (h4 : L.length ≤ 400) (hB : B.length = L.length) :
    CW Try.prog X 21 [.slice (some ⟨n, 0, none⟩) L.length c, .slice (some ⟨m, 0, none⟩) B.length d] σ fun v σ' => ∃ p c', v = .slice (some ⟨p, 0, none⟩) (L.length + 1) c' ∧ σ.length ≤ p ∧ σ <+: σ' ∧ look σ' p = some ⟨(offsTo L B L.length).1.map (.int .i64), true, 1⟩ := by
  refine cw_in Try.func21 rfl Try.ntmps21 (rs := [.tmp 4]) rfl (by kernel_rfl) (by exact Nat.le_of_ble_eq_true rfl) ?_
  have hn : n < σ.length := look_lt hl
  have hm : m < σ.length := look_lt hb
  simp only [go_sem, ↓reduceIte, Nat.reduceEqDiff, Nat.reduceAdd, Nat.reduceMul, Nat.reduceLT, Nat.reduceLeDiff, Int.reduceLT, Int.reduceLE, Int.reduceNeg, Int.reduceAdd, Int.reduceSub, Int.reduceMul, Int.reduceToNat, Int.reduceEq, Int.reduceNe, Int.cast_ofNat_Int, Int.natCast_one, Int.natCast_zero, Int.natCast_add, reduceCtorEq]
  refine LW_run (fun k T σ' => ∃ (i q c' : Nat) (τ : Heap), i + k = L.length ∧ σ' = σ ++ τ ∧ T 1 = .slice (some ⟨m, 0, none⟩) B.length d ∧ T 5 = .slice (some ⟨σ.length + q, 0, none⟩) (i + 1) c' ∧ T 6 = .int .i64 (offsTo L B i).2
      ∧ T 10 = .slice (some ⟨n, 0, none⟩) L.length c ∧ T 11 = .int .i64 L.length ∧ T 12 = .int .i64 i ∧ look τ q = some ⟨(offsTo L B i).1.map (.int .i64), true, 1⟩) L.length ⟨0, 0, 1, _, by omega, rfl, rfl, rfl, rfl, rfl, rfl, rfl, rfl⟩ ?_
  rintro k T _ ⟨i, q, c', τ, hk, rfl, h1, h5, h6, h10, h11, h12, hq⟩
  have hql := look_lt hq
  simp only [go_sem, ↓reduceIte, Nat.reduceEqDiff, Nat.reduceAdd, Nat.reduceMul, Nat.reduceLT, Nat.reduceLeDiff, Int.reduceLT, Int.reduceLE, Int.reduceNeg, Int.reduceAdd, Int.reduceSub, Int.reduceMul, Int.reduceToNat, Int.reduceEq, Int.reduceNe, Int.cast_ofNat_Int, Int.natCast_one, Int.natCast_zero, Int.natCast_add, reduceCtorEq, h1, h5, h6, h10, h11, h12]
  refine fork_dec (fun _ => ?_) (fun _ => ?_)
  · rename_i hi
    obtain ⟨x, hx⟩ : ∃ x, L[i]? = some x := ⟨L[i]'(by omega), List.getElem?_eq_getElem _⟩
    obtain ⟨b, hbb⟩ : ∃ b, B[i]? = some b := ⟨B[i]'(by omega), List.getElem?_eq_getElem _⟩
    have hf := hL x (List.mem_of_getElem? hx)
    have ha := offsTo_bound L B hL i
    have hstep : offsTo L B (i + 1) = ((offsTo L B i).1 ++ [nextOff x b (offsTo L B i).2], nextOff x b (offsTo L B i).2) := by
      rw [offsTo, hx]
      simp [hbb]
    have hln := offsTo_len L B i (by omega)
    have hnx := nextOff_le hf b ha.1
    generalize (offsTo L B i).2 = a at *
    generalize (offsTo L B i).1 = os at *
    have hap : (i + 1 + 1) * 8 ≤ 140737488355328 := by omega
    simp only [go_sem, ↓reduceIte, Nat.reduceEqDiff, Nat.reduceAdd, Nat.reduceMul, Nat.reduceLT, Nat.reduceLeDiff, Int.reduceLT, Int.reduceLE, Int.reduceNeg, Int.reduceAdd, Int.reduceSub, Int.reduceMul, Int.reduceToNat, Int.reduceEq, Int.reduceNe, Int.cast_ofNat_Int, Int.natCast_one, Int.natCast_zero, Int.natCast_add, reduceCtorEq, h1, h5, h6, h10, h11, h12, hi, look_app_lt hn, look_app_lt hm, hl, Frag.take x L i hx, Frag.len, show i * 6 + 6 ≤ L.length * 6 by omega, Frag.cells]
    obtain ⟨f1, f2, f3, f4⟩ := hf
    have hmm : 0 ≤ (i : Int) ∧ (i : Int) < (B.length : Int) := by omega
    refine fork_dec (fun _ => ?_) (fun _ => ?_)
    · rename_i hk1
      have e : nextOff x b a = a + x.size := by simp [nextOff, hk1]
      simp only [go_sem, ↓reduceIte, Nat.reduceEqDiff, Nat.reduceAdd, Nat.reduceMul, Nat.reduceLT, Nat.reduceLeDiff, Int.reduceLT, Int.reduceLE, Int.reduceNeg, Int.reduceAdd, Int.reduceSub, Int.reduceMul, Int.reduceToNat, Int.reduceEq, Int.reduceNe, Int.cast_ofNat_Int, Int.natCast_one, Int.natCast_zero, Int.natCast_add, reduceCtorEq, h1, h5, h6, h10, h11, h12, hi, look_app_lt hn, look_app_lt hm, look_app_lt hql, set_app_lt hql, hq, hln, hap, hk1, wrap64 (show -9223372036854775808 ≤ a + x.size ∧ a + x.size ≤ 9223372036854775807 by omega)]
      refine ⟨k - 1, by omega, i + 1, τ.length + 2, _, _, by omega, rfl, rfl, by rw [hstep, e], by rw [wrap64 (by omega)]; rfl, ?_⟩
      rw [look_app_at (i := 2) (by simp), hstep, e, List.map_append]
      rfl
    · rename_i hk1
      simp only [go_sem, ↓reduceIte, Nat.reduceEqDiff, Nat.reduceAdd, Nat.reduceMul, Nat.reduceLT, Nat.reduceLeDiff, Int.reduceLT, Int.reduceLE, Int.reduceNeg, Int.reduceAdd, Int.reduceSub, Int.reduceMul, Int.reduceToNat, Int.reduceEq, Int.reduceNe, Int.cast_ofNat_Int, Int.natCast_one, Int.natCast_zero, Int.natCast_add, reduceCtorEq, h1, h5, h6, h10, h11, h12, hi, look_app_lt hn, look_app_lt hm, look_app_lt hql, set_app_lt hql, hq, hln, hap, hk1]
      refine fork_dec (fun _ => ?_) (fun _ => ?_)
      · rename_i hk2
        have f5 := f3 hk2
        have e : nextOff x b a = (a + x.size - 1).tdiv x.size * x.size := by simp [nextOff, hk1, hk2]
        rw [e] at hnx
        have h0 : 0 ≤ (a + x.size - 1).tdiv x.size := Int.tdiv_nonneg (by omega) (by omega)
        have h01 : (a + x.size - 1).tdiv x.size ≤ a + x.size - 1 := Int.tdiv_le_self _ (by omega)
        have hnz : x.size ≠ 0 := by omega
        simp only [go_sem, ↓reduceIte, Nat.reduceEqDiff, Nat.reduceAdd, Nat.reduceMul, Nat.reduceLT, Nat.reduceLeDiff, Int.reduceLT, Int.reduceLE, Int.reduceNeg, Int.reduceAdd, Int.reduceSub, Int.reduceMul, Int.reduceToNat, Int.reduceEq, Int.reduceNe, Int.cast_ofNat_Int, Int.natCast_one, Int.natCast_zero, Int.natCast_add, reduceCtorEq, h1, h5, h6, h10, h11, h12, hi, look_app_lt hn, look_app_lt hm, look_app_lt hql, set_app_lt hql, hq, hln, hap, hk2, wrap64 (show -9223372036854775808 ≤ a + x.size ∧ a + x.size ≤ 9223372036854775807 by omega), wrap64 (show -9223372036854775808 ≤ a + x.size - 1 ∧ a + x.size - 1 ≤ 9223372036854775807 by omega), wrap64 (show -9223372036854775808 ≤ (a + x.size - 1).tdiv x.size ∧ (a + x.size - 1).tdiv x.size ≤ 9223372036854775807 by omega), wrap64 (show -9223372036854775808 ≤ (a + x.size - 1).tdiv x.size * x.size ∧ (a + x.size - 1).tdiv x.size * x.size ≤ 9223372036854775807 by omega), i_quo hnz]
        refine ⟨k - 1, by omega, i + 1, τ.length + 2, _, _, by omega, rfl, rfl, by rw [hstep, e], by rw [wrap64 (by omega)]; rfl, ?_⟩
        rw [look_app_at (i := 2) (by simp), hstep, e, List.map_append]
        rfl
      · rename_i hk2
        have f5 := f4 (by omega)
        simp only [go_sem, ↓reduceIte, Nat.reduceEqDiff, Nat.reduceAdd, Nat.reduceMul, Nat.reduceLT, Nat.reduceLeDiff, Int.reduceLT, Int.reduceLE, Int.reduceNeg, Int.reduceAdd, Int.reduceSub, Int.reduceMul, Int.reduceToNat, Int.reduceEq, Int.reduceNe, Int.cast_ofNat_Int, Int.natCast_one, Int.natCast_zero, Int.natCast_add, reduceCtorEq, h1, h5, h6, h10, h11, h12, hi, look_app_lt hn, look_app_lt hm, look_app_lt hql, set_app_lt hql, hq, hln, hap, hk2, hmm, hb, List.getElem?_map, hbb]
        cases b with
        | true =>
          have e : nextOff x true a = a + x.long := by simp [nextOff, hk1, hk2]
          simp only [go_sem, ↓reduceIte, Nat.reduceEqDiff, Nat.reduceAdd, Nat.reduceMul, Nat.reduceLT, Nat.reduceLeDiff, Int.reduceLT, Int.reduceLE, Int.reduceNeg, Int.reduceAdd, Int.reduceSub, Int.reduceMul, Int.reduceToNat, Int.reduceEq, Int.reduceNe, Int.cast_ofNat_Int, Int.natCast_one, Int.natCast_zero, Int.natCast_add, reduceCtorEq, h1, h5, h6, h10, h11, h12, hi, look_app_lt hn, look_app_lt hm, look_app_lt hql, set_app_lt hql, hq, hln, hap, wrap64 (show -9223372036854775808 ≤ a + x.long ∧ a + x.long ≤ 9223372036854775807 by omega)]
          refine ⟨k - 1, by omega, i + 1, τ.length + 2, _, _, by omega, rfl, rfl, by rw [hstep, e], by rw [wrap64 (by omega)]; rfl, ?_⟩
          rw [look_app_at (i := 2) (by simp), hstep, e, List.map_append]
          rfl
        | false =>
          have e : nextOff x false a = a + x.short := by simp [nextOff, hk1, hk2]
          simp only [go_sem, ↓reduceIte, Nat.reduceEqDiff, Nat.reduceAdd, Nat.reduceMul, Nat.reduceLT, Nat.reduceLeDiff, Int.reduceLT, Int.reduceLE, Int.reduceNeg, Int.reduceAdd, Int.reduceSub, Int.reduceMul, Int.reduceToNat, Int.reduceEq, Int.reduceNe, Int.cast_ofNat_Int, Int.natCast_one, Int.natCast_zero, Int.natCast_add, reduceCtorEq, h1, h5, h6, h10, h11, h12, hi, look_app_lt hn, look_app_lt hm, look_app_lt hql, set_app_lt hql, hq, hln, hap, wrap64 (show -9223372036854775808 ≤ a + x.short ∧ a + x.short ≤ 9223372036854775807 by omega)]
          refine ⟨k - 1, by omega, i + 1, τ.length + 2, _, _, by omega, rfl, rfl, by rw [hstep, e], by rw [wrap64 (by omega)]; rfl, ?_⟩
          rw [look_app_at (i := 2) (by simp), hstep, e, List.map_append]
          rfl
  · rename_i hi
    simp only [go_sem, ↓reduceIte, Nat.reduceEqDiff, Nat.reduceAdd, Nat.reduceMul, Nat.reduceLT, Nat.reduceLeDiff, Int.reduceLT, Int.reduceLE, Int.reduceNeg, Int.reduceAdd, Int.reduceSub, Int.reduceMul, Int.reduceToNat, Int.reduceEq, Int.reduceNe, Int.cast_ofNat_Int, Int.natCast_one, Int.natCast_zero, Int.natCast_add, reduceCtorEq, h1, h5, h6, h10, h11, h12, hi]
    have e : i = L.length := by omega
    subst e
    exact ⟨_, _, rfl, by omega, List.prefix_append _ _, by rw [look_app_add]; exact hq⟩
end Go.Proofs.Ytcjhgnbkdiopkaa.Abs
