import Derived.Test.YtcjhgnbkdiopkaaSett
namespace Go.Proofs.Ytcjhgnbkdiopkaa.Abs
open Go Go.RowKit
set_option linter.unusedVariables false
set_option linter.unusedSimpArgs false
set_option maxRecDepth 100000

theorem align_exit {s cur t a : Int} (hs : 1 ≤ s) (ha : 0 ≤ a) (h1 : a ≤ cur) (h2 : cur ≤ t) (h3 : t - a < s) (h4 : t.tmod s = 0) (h5 : cur.tmod s = 0) : cur = t := by
  have d1 := Int.dvd_of_tmod_eq_zero h4
  have d2 := Int.dvd_of_tmod_eq_zero h5
  obtain ⟨k1, e1⟩ := d1
  obtain ⟨k2, e2⟩ := d2
  have h6 : s * (k1 - k2) < s * 1 := by rw [Int.mul_sub]; omega
  have h7 := Int.lt_of_mul_lt_mul_left h6 (by omega)
  have h8 : s * 0 ≤ s * (k1 - k2) := by rw [Int.mul_sub]; omega
  have h9 := Int.le_of_mul_le_mul_left h8 (by omega)
  have : k1 = k2 := by omega
  rw [e1, e2, this]

set_option maxHeartbeats 1000000 in
theorem f16_ok (X : Ext) (L : List Frag) (B : List Bool) (n c m d lb : Nat) (ow ow' : Bool) (sz sz' : Nat) (σ : Heap) (hl : look σ n = some ⟨L.flatMap Frag.cells, ow, sz⟩) (hb : look σ m = some ⟨B.map .bool, ow', sz'⟩)
    (hL : ∀ x ∈ L, x.fine) (h4 : L.length ≤ 400) (hlb : lb = B.length) (hB : B.length = L.length) :
    CW Try.prog X 16 [.slice (some ⟨n, 0, none⟩) L.length c, .slice (some ⟨m, 0, none⟩) lb d] σ fun v σ' => ∃ p c', v = .slice (some ⟨p, 0, none⟩) (L.length + 1) c' ∧ σ.length ≤ p ∧ σ <+: σ' ∧ look σ' p = some ⟨(offsTo L B L.length).1.map (.int .i64), true, 1⟩ := by
  subst hlb
  refine cw_in Try.func16 rfl Try.ntmps16 (rs := [.tmp 4]) rfl (by kernel_rfl) (by exact Nat.le_of_ble_eq_true rfl) ?_
  have hn : n < σ.length := look_lt hl
  have hm : m < σ.length := look_lt hb
  simp only [go_sem, ↓reduceIte, Nat.reduceEqDiff, Nat.reduceAdd, Nat.reduceMul, Nat.reduceLT, Nat.reduceLeDiff, Int.reduceLT, Int.reduceLE, Int.reduceNeg, Int.reduceAdd, Int.reduceSub, Int.reduceMul, Int.reduceToNat, Int.reduceEq, Int.reduceNe, Int.cast_ofNat_Int, Int.natCast_one, Int.natCast_zero, Int.natCast_add, reduceCtorEq]
  refine LW_run (fun k T σ' => ∃ (i q c' : Nat) (τ : Heap), i + k = L.length ∧ σ' = σ ++ τ ∧ T 0 = .slice (some ⟨n, 0, none⟩) L.length c ∧ T 1 = .slice (some ⟨m, 0, none⟩) B.length d ∧ T 5 = .slice (some ⟨σ.length + q, 0, none⟩) (i + 1) c' ∧ T 6 = .int .i64 i
      ∧ look τ q = some ⟨(offsTo L B i).1.map (.int .i64), true, 1⟩) L.length ⟨0, 0, 1, _, by omega, rfl, rfl, rfl, rfl, rfl, rfl⟩ ?_
  rintro k T _ ⟨i, q, c', τ, hk, rfl, h0, h1, h5, h6, hq⟩
  have hql := look_lt hq
  simp only [go_sem, ↓reduceIte, Nat.reduceEqDiff, Nat.reduceAdd, Nat.reduceMul, Nat.reduceLT, Nat.reduceLeDiff, Int.reduceLT, Int.reduceLE, Int.reduceNeg, Int.reduceAdd, Int.reduceSub, Int.reduceMul, Int.reduceToNat, Int.reduceEq, Int.reduceNe, Int.cast_ofNat_Int, Int.natCast_one, Int.natCast_zero, Int.natCast_add, reduceCtorEq, h0, h1, h5, h6]
  refine fork_dec (fun _ => ?_) (fun _ => ?_)
  · rename_i hi
    obtain ⟨x, hx⟩ : ∃ x, L[i]? = some x := ⟨L[i]'(by omega), List.getElem?_eq_getElem _⟩
    obtain ⟨b, hbb⟩ : ∃ b, B[i]? = some b := ⟨B[i]'(by omega), List.getElem?_eq_getElem _⟩
    have hf := hL x (List.mem_of_getElem? hx)
    have ha := offsTo_bound L B hL i
    have hge := offsTo_get L B i i (Nat.le_refl _) (by omega)
    have hstep : offsTo L B (i + 1) = ((offsTo L B i).1 ++ [nextOff x b (offsTo L B i).2], nextOff x b (offsTo L B i).2) := by
      rw [offsTo, hx]
      simp [hbb]
    have hln := offsTo_len L B i (by omega)
    have hnx := nextOff_le hf b ha.1
    have hal := fun hk2 => nextOff_align hf hk2 b ha.1
    generalize (offsTo L B i).2 = a at *
    generalize (offsTo L B i).1 = os at *
    have hap : (i + 1 + 1) * 8 ≤ 140737488355328 := by omega
    obtain ⟨f1, f2, f3, f4⟩ := hf
    have hmm : 0 ≤ (i : Int) ∧ (i : Int) < (B.length : Int) := by omega
    have g0 : (L.flatMap Frag.cells)[i * 6]? = x.cells[0]? := by simpa using Frag.get x L i 0 hx (by omega)
    simp only [go_sem, ↓reduceIte, Nat.reduceEqDiff, Nat.reduceAdd, Nat.reduceMul, Nat.reduceLT, Nat.reduceLeDiff, Int.reduceLT, Int.reduceLE, Int.reduceNeg, Int.reduceAdd, Int.reduceSub, Int.reduceMul, Int.reduceToNat, Int.reduceEq, Int.reduceNe, Int.cast_ofNat_Int, Int.natCast_one, Int.natCast_zero, Int.natCast_add, reduceCtorEq, h0, h1, h5, h6, hi, look_app_lt hn, look_app_lt hm, look_app_lt hql, hq, List.getElem?_map, hge, show (i : Int) < (i : Int) + 1 by omega, hl, g0, Frag.cells]
    have g1 := Frag.get x L i 1 hx (by omega)
    have g2 := Frag.get x L i 2 hx (by omega)
    have g3 := Frag.get x L i 3 hx (by omega)
    refine fork_dec (fun _ => ?_) (fun _ => ?_)
    · rename_i hk2
      obtain ⟨q1, q2⟩ := hal hk2
      have q3 := f3 hk2
      have hnz : x.size ≠ 0 := by omega
      simp only [go_sem, ↓reduceIte, Nat.reduceEqDiff, Nat.reduceAdd, Nat.reduceMul, Nat.reduceLT, Nat.reduceLeDiff, Int.reduceLT, Int.reduceLE, Int.reduceNeg, Int.reduceAdd, Int.reduceSub, Int.reduceMul, Int.reduceToNat, Int.reduceEq, Int.reduceNe, Int.cast_ofNat_Int, Int.natCast_one, Int.natCast_zero, Int.natCast_add, reduceCtorEq, hk2]
      have e : nextOff x b a = nextOff x b a := rfl
      generalize nextOff x b a = t at *
      refine LW_run (fun k2 T2 σ2 => ∃ cur : Int, a ≤ cur ∧ cur + (k2 : Int) = t ∧ σ2 = σ ++ τ ∧ T2 0 = .slice (some ⟨n, 0, none⟩) L.length c ∧ T2 1 = .slice (some ⟨m, 0, none⟩) B.length d ∧ T2 5 = .slice (some ⟨σ.length + q, 0, none⟩) (i + 1) c' ∧ T2 6 = .int .i64 i ∧ T2 7 = .int .i64 cur) (t - a).toNat
        ⟨a, by omega, by omega, rfl, by simp only [go_sem, ↓reduceIte, Nat.reduceEqDiff, Nat.reduceAdd, Nat.reduceMul, Nat.reduceLT, Nat.reduceLeDiff, Int.reduceLT, Int.reduceLE, Int.reduceNeg, Int.reduceAdd, Int.reduceSub, Int.reduceMul, Int.reduceToNat, Int.reduceEq, Int.reduceNe, Int.cast_ofNat_Int, Int.natCast_one, Int.natCast_zero, Int.natCast_add, reduceCtorEq, h0], by simp only [go_sem, ↓reduceIte, Nat.reduceEqDiff, Nat.reduceAdd, Nat.reduceMul, Nat.reduceLT, Nat.reduceLeDiff, Int.reduceLT, Int.reduceLE, Int.reduceNeg, Int.reduceAdd, Int.reduceSub, Int.reduceMul, Int.reduceToNat, Int.reduceEq, Int.reduceNe, Int.cast_ofNat_Int, Int.natCast_one, Int.natCast_zero, Int.natCast_add, reduceCtorEq, h1], by simp only [go_sem, ↓reduceIte, Nat.reduceEqDiff, Nat.reduceAdd, Nat.reduceMul, Nat.reduceLT, Nat.reduceLeDiff, Int.reduceLT, Int.reduceLE, Int.reduceNeg, Int.reduceAdd, Int.reduceSub, Int.reduceMul, Int.reduceToNat, Int.reduceEq, Int.reduceNe, Int.cast_ofNat_Int, Int.natCast_one, Int.natCast_zero, Int.natCast_add, reduceCtorEq, h5], by simp only [go_sem, ↓reduceIte, Nat.reduceEqDiff, Nat.reduceAdd, Nat.reduceMul, Nat.reduceLT, Nat.reduceLeDiff, Int.reduceLT, Int.reduceLE, Int.reduceNeg, Int.reduceAdd, Int.reduceSub, Int.reduceMul, Int.reduceToNat, Int.reduceEq, Int.reduceNe, Int.cast_ofNat_Int, Int.natCast_one, Int.natCast_zero, Int.natCast_add, reduceCtorEq, h6], rfl⟩ ?_
      rintro k2 T2 _ ⟨cur, r1, r2, rfl, u0, u1, u5, u6, u7⟩
      simp only [go_sem, ↓reduceIte, Nat.reduceEqDiff, Nat.reduceAdd, Nat.reduceMul, Nat.reduceLT, Nat.reduceLeDiff, Int.reduceLT, Int.reduceLE, Int.reduceNeg, Int.reduceAdd, Int.reduceSub, Int.reduceMul, Int.reduceToNat, Int.reduceEq, Int.reduceNe, Int.cast_ofNat_Int, Int.natCast_one, Int.natCast_zero, Int.natCast_add, reduceCtorEq, u0, u1, u5, u6, u7, hi, look_app_lt hn, hl, g1, Frag.cells, i_rem hnz]
      by_cases hz : cur.tmod x.size = 0
      · have ect := align_exit q3 ha.1 r1 (by omega) q2 q1 hz
        subst ect
        simp only [go_sem, ↓reduceIte, Nat.reduceEqDiff, Nat.reduceAdd, Nat.reduceMul, Nat.reduceLT, Nat.reduceLeDiff, Int.reduceLT, Int.reduceLE, Int.reduceNeg, Int.reduceAdd, Int.reduceSub, Int.reduceMul, Int.reduceToNat, Int.reduceEq, Int.reduceNe, Int.cast_ofNat_Int, Int.natCast_one, Int.natCast_zero, Int.natCast_add, reduceCtorEq, hz, u0, u1, u5, u6, u7, hi, look_app_lt hql, set_app_lt hql, hq, hln, hap]
        exact ⟨k - 1, by omega, i + 1, τ.length + 1, _, _, by omega, rfl, rfl, by rw [wrap64 (by omega)]; rfl, by rw [look_app_at (i := 1) (by simp), hstep, e, List.map_append]; rfl⟩
      · have hne : cur ≠ t := fun h => hz (h ▸ q1)
        simp only [go_sem, ↓reduceIte, Nat.reduceEqDiff, Nat.reduceAdd, Nat.reduceMul, Nat.reduceLT, Nat.reduceLeDiff, Int.reduceLT, Int.reduceLE, Int.reduceNeg, Int.reduceAdd, Int.reduceSub, Int.reduceMul, Int.reduceToNat, Int.reduceEq, Int.reduceNe, Int.cast_ofNat_Int, Int.natCast_one, Int.natCast_zero, Int.natCast_add, reduceCtorEq, hz, u0, u1, u5, u6, u7, wrap64 (show -9223372036854775808 ≤ cur + 1 ∧ cur + 1 ≤ 9223372036854775807 by omega)]
        exact ⟨k2 - 1, by omega, cur + 1, by omega, by omega, rfl⟩
    · rename_i hk2
      simp only [go_sem, ↓reduceIte, Nat.reduceEqDiff, Nat.reduceAdd, Nat.reduceMul, Nat.reduceLT, Nat.reduceLeDiff, Int.reduceLT, Int.reduceLE, Int.reduceNeg, Int.reduceAdd, Int.reduceSub, Int.reduceMul, Int.reduceToNat, Int.reduceEq, Int.reduceNe, Int.cast_ofNat_Int, Int.natCast_one, Int.natCast_zero, Int.natCast_add, reduceCtorEq, h0, h1, h5, h6, hi, look_app_lt hn, look_app_lt hm, look_app_lt hql, set_app_lt hql, hq, hl, hb, hln, hap, g0, g1, g2, g3, List.getElem?_map, hbb, hmm, Frag.cells]
      refine fork_dec (fun _ => ?_) (fun _ => ?_)
      · rename_i hk1
        have e : nextOff x b a = a + x.size := by simp [nextOff, hk1]
        simp only [go_sem, ↓reduceIte, Nat.reduceEqDiff, Nat.reduceAdd, Nat.reduceMul, Nat.reduceLT, Nat.reduceLeDiff, Int.reduceLT, Int.reduceLE, Int.reduceNeg, Int.reduceAdd, Int.reduceSub, Int.reduceMul, Int.reduceToNat, Int.reduceEq, Int.reduceNe, Int.cast_ofNat_Int, Int.natCast_one, Int.natCast_zero, Int.natCast_add, reduceCtorEq, h0, h1, h5, h6, hi, look_app_lt hn, look_app_lt hm, look_app_lt hql, set_app_lt hql, hq, hl, hb, hln, hap, g0, g1, g2, g3, List.getElem?_map, hbb, hmm, Frag.cells, wrap64 (show -9223372036854775808 ≤ a + x.size ∧ a + x.size ≤ 9223372036854775807 by omega)]
        exact ⟨k - 1, by omega, i + 1, τ.length + 1, _, _, by omega, rfl, rfl, by rw [wrap64 (by omega)]; rfl, by rw [look_app_at (i := 1) (by simp), hstep, e, List.map_append]; rfl⟩
      · rename_i hk1
        have f5 := f4 (by omega)
        simp only [go_sem, ↓reduceIte, Nat.reduceEqDiff, Nat.reduceAdd, Nat.reduceMul, Nat.reduceLT, Nat.reduceLeDiff, Int.reduceLT, Int.reduceLE, Int.reduceNeg, Int.reduceAdd, Int.reduceSub, Int.reduceMul, Int.reduceToNat, Int.reduceEq, Int.reduceNe, Int.cast_ofNat_Int, Int.natCast_one, Int.natCast_zero, Int.natCast_add, reduceCtorEq, h0, h1, h5, h6, hi, look_app_lt hn, look_app_lt hm, look_app_lt hql, set_app_lt hql, hq, hl, hb, hln, hap, g0, g1, g2, g3, List.getElem?_map, hbb, hmm, Frag.cells]
        cases b with
        | true =>
          have e : nextOff x true a = a + x.long := by simp [nextOff, hk1, hk2]
          simp only [go_sem, ↓reduceIte, Nat.reduceEqDiff, Nat.reduceAdd, Nat.reduceMul, Nat.reduceLT, Nat.reduceLeDiff, Int.reduceLT, Int.reduceLE, Int.reduceNeg, Int.reduceAdd, Int.reduceSub, Int.reduceMul, Int.reduceToNat, Int.reduceEq, Int.reduceNe, Int.cast_ofNat_Int, Int.natCast_one, Int.natCast_zero, Int.natCast_add, reduceCtorEq, h0, h1, h5, h6, hi, look_app_lt hn, look_app_lt hm, look_app_lt hql, set_app_lt hql, hq, hl, hb, hln, hap, g0, g1, g2, g3, List.getElem?_map, hbb, hmm, Frag.cells, wrap64 (show -9223372036854775808 ≤ a + x.long ∧ a + x.long ≤ 9223372036854775807 by omega)]
          exact ⟨k - 1, by omega, i + 1, τ.length + 1, _, _, by omega, rfl, rfl, by rw [wrap64 (by omega)]; rfl, by rw [look_app_at (i := 1) (by simp), hstep, e, List.map_append]; rfl⟩
        | false =>
          have e : nextOff x false a = a + x.short := by simp [nextOff, hk1, hk2]
          simp only [go_sem, ↓reduceIte, Nat.reduceEqDiff, Nat.reduceAdd, Nat.reduceMul, Nat.reduceLT, Nat.reduceLeDiff, Int.reduceLT, Int.reduceLE, Int.reduceNeg, Int.reduceAdd, Int.reduceSub, Int.reduceMul, Int.reduceToNat, Int.reduceEq, Int.reduceNe, Int.cast_ofNat_Int, Int.natCast_one, Int.natCast_zero, Int.natCast_add, reduceCtorEq, h0, h1, h5, h6, hi, look_app_lt hn, look_app_lt hm, look_app_lt hql, set_app_lt hql, hq, hl, hb, hln, hap, g0, g1, g2, g3, List.getElem?_map, hbb, hmm, Frag.cells, wrap64 (show -9223372036854775808 ≤ a + x.short ∧ a + x.short ≤ 9223372036854775807 by omega)]
          exact ⟨k - 1, by omega, i + 1, τ.length + 1, _, _, by omega, rfl, rfl, by rw [wrap64 (by omega)]; rfl, by rw [look_app_at (i := 1) (by simp), hstep, e, List.map_append]; rfl⟩
  · rename_i hi
    simp only [go_sem, ↓reduceIte, Nat.reduceEqDiff, Nat.reduceAdd, Nat.reduceMul, Nat.reduceLT, Nat.reduceLeDiff, Int.reduceLT, Int.reduceLE, Int.reduceNeg, Int.reduceAdd, Int.reduceSub, Int.reduceMul, Int.reduceToNat, Int.reduceEq, Int.reduceNe, Int.cast_ofNat_Int, Int.natCast_one, Int.natCast_zero, Int.natCast_add, reduceCtorEq, h0, h1, h5, h6, hi]
    have e : i = L.length := by omega
    subst e
    exact ⟨_, _, rfl, by omega, List.prefix_append _ _, by rw [look_app_add]; exact hq⟩
end Go.Proofs.Ytcjhgnbkdiopkaa.Abs
