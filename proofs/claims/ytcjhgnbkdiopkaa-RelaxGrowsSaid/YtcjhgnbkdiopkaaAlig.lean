import Derived.Test.YtcjhgnbkdiopkaaExam
namespace Go.Proofs.Ytcjhgnbkdiopkaa.Abs
open Go Go.RowKit
set_option linter.unusedVariables false
set_option linter.unusedSimpArgs false
set_option maxRecDepth 100000

theorem offsTo_get (L : List Frag) (B : List Bool) : ∀ (k i : Nat), i ≤ k → k ≤ L.length → (offsTo L B k).1[i]? = some (offsTo L B i).2
  | 0, i, h, _ => by
    have : i = 0 := by omega
    subst this
    rfl
  | k + 1, i, h, hk => by
    have hln := offsTo_len L B k (by omega)
    by_cases hi : i ≤ k
    · rw [offsTo, List.getElem?_eq_getElem (by omega : k < L.length)]
      simp only
      rw [List.getElem?_append_left (by omega)]
      exact offsTo_get L B k i hi (by omega)
    · have e : i = k + 1 := by omega
      subst e
      rw [offsTo, List.getElem?_eq_getElem (by omega : k < L.length)]
      simp only
      rw [List.getElem?_append_right (by omega), hln]
      simp
theorem offsTo_step {L : List Frag} {B : List Bool} {i : Nat} {x : Frag} (hx : L[i]? = some x) : (offsTo L B (i + 1)).2 = nextOff x (B.getD i false) (offsTo L B i).2 := by
  rw [offsTo, hx]
theorem nextOff_align {x : Frag} (hx : x.fine) (hk : x.kind = 2) (b : Bool) {a : Int} (h : 0 ≤ a) : (nextOff x b a).tmod x.size = 0 ∧ nextOff x b a - a < x.size := by
  obtain ⟨h1, h2, h3, h4⟩ := hx
  have hs := h3 hk
  have e : nextOff x b a = (a + x.size - 1).tdiv x.size * x.size := by simp [nextOff, hk]
  rw [e]
  refine ⟨Int.mul_tmod_left _ _, ?_⟩
  rw [Int.tdiv_eq_ediv_of_nonneg (by omega)]
  have h5 := Int.ediv_mul_le (a + x.size - 1) (show x.size ≠ 0 by omega)
  omega

set_option maxHeartbeats 1000000 in
theorem f4_ok (X : Ext) (L : List Frag) (B : List Bool) (n c m d : Nat) (ow ow' : Bool) (sz sz' : Nat) (σ : Heap) (hl : look σ n = some ⟨L.flatMap Frag.cells, ow, sz⟩) (hb : look σ m = some ⟨B.map .bool, ow', sz'⟩) :
    CW Try.prog X 4 [.slice (some ⟨n, 0, none⟩) L.length c, .slice (some ⟨m, 0, none⟩) B.length d] σ fun v σ' => v = .bool true := by
  refine cw_in Try.func4 rfl Try.ntmps4 (rs := [.tmp 4]) rfl (by kernel_rfl) (by exact Nat.le_of_ble_eq_true rfl) ?_
  have hn : n < σ.length := look_lt hl
  have hm : m < σ.length := look_lt hb
  simp only [go_sem, ↓reduceIte, Nat.reduceEqDiff, Nat.reduceAdd, Nat.reduceMul, Nat.reduceLT, Nat.reduceLeDiff, Int.reduceLT, Int.reduceLE, Int.reduceNeg, Int.reduceAdd, Int.reduceSub, Int.reduceMul, Int.reduceToNat, Int.reduceEq, Int.reduceNe, Int.cast_ofNat_Int, Int.natCast_one, Int.natCast_zero, Int.natCast_add, reduceCtorEq]
  refine (f7_ok X _).mono ?_
  rintro _ _ ⟨rfl, τ0, rfl⟩
  simp only [go_sem, ↓reduceIte, Nat.reduceEqDiff, Nat.reduceAdd, Nat.reduceMul, Nat.reduceLT, Nat.reduceLeDiff, Int.reduceLT, Int.reduceLE, Int.reduceNeg, Int.reduceAdd, Int.reduceSub, Int.reduceMul, Int.reduceToNat, Int.reduceEq, Int.reduceNe, Int.cast_ofNat_Int, Int.natCast_one, Int.natCast_zero, Int.natCast_add, reduceCtorEq]
  refine (f8_ok X L B n c m d ow ow' sz sz' _ ((look_app_lt hn).trans hl) ((look_app_lt hm).trans hb)).mono ?_
  rintro v _ ⟨⟨τ1, rfl⟩, ⟨h, rfl⟩ | ⟨h, hBL, rfl⟩ | ⟨h0, hBL, p, c', rfl, hp, hlp⟩⟩
  · simp only [go_sem, ↓reduceIte, Nat.reduceEqDiff, Nat.reduceAdd, Nat.reduceMul, Nat.reduceLT, Nat.reduceLeDiff, Int.reduceLT, Int.reduceLE, Int.reduceNeg, Int.reduceAdd, Int.reduceSub, Int.reduceMul, Int.reduceToNat, Int.reduceEq, Int.reduceNe, Int.cast_ofNat_Int, Int.natCast_one, Int.natCast_zero, Int.natCast_add, reduceCtorEq, faultV, h]
  · simp only [go_sem, ↓reduceIte, Nat.reduceEqDiff, Nat.reduceAdd, Nat.reduceMul, Nat.reduceLT, Nat.reduceLeDiff, Int.reduceLT, Int.reduceLE, Int.reduceNeg, Int.reduceAdd, Int.reduceSub, Int.reduceMul, Int.reduceToNat, Int.reduceEq, Int.reduceNe, Int.cast_ofNat_Int, Int.natCast_one, Int.natCast_zero, Int.natCast_add, reduceCtorEq, faultV]
  obtain ⟨v1, v2, v3⟩ := validate_fine h0
  have hO := offsTo_get L B L.length
  have hO0 : (offsTo L B L.length).1[0]? = some 0 := hO 0 (by omega) (by omega)
  have hpl := look_lt hlp
  simp only [List.append_assoc, List.cons_append, List.nil_append, List.length_append, List.length_cons, List.length_nil] at hp hlp hpl
  have hlp2 : ∀ l, look (σ ++ (τ0 ++ (τ1 ++ l))) p = some ⟨(offsTo L B L.length).1.map (.int .i64), true, 1⟩ := fun l => look_prefix ⟨l, by simp⟩ hlp
  have hpn : p ≠ n := by omega
  simp only [go_sem, ↓reduceIte, Nat.reduceEqDiff, Nat.reduceAdd, Nat.reduceMul, Nat.reduceLT, Nat.reduceLeDiff, Int.reduceLT, Int.reduceLE, Int.reduceNeg, Int.reduceAdd, Int.reduceSub, Int.reduceMul, Int.reduceToNat, Int.reduceEq, Int.reduceNe, Int.cast_ofNat_Int, Int.natCast_one, Int.natCast_zero, Int.natCast_add, reduceCtorEq, faultV, wrap64 (show -9223372036854775808 ≤ (L.length : Int) + 1 ∧ (L.length : Int) + 1 ≤ 9223372036854775807 by omega), hlp2, List.getElem?_map, hO0, show (0 : Int) < (L.length : Int) + 1 by omega]
  refine LW_run (fun k T σ' => ∃ i : Nat, i + k = L.length ∧ σ' = σ ++ (τ0 ++ (τ1 ++ [some ⟨[.int .i64 0, .int .i64 0], true, 0⟩])) ∧ T 0 = .slice (some ⟨n, 0, none⟩) L.length c ∧ T 5 = .slice (some ⟨p, 0, none⟩) (L.length + 1) c' ∧ T 7 = .int .i64 i) L.length ⟨0, by simp, rfl, rfl, rfl, rfl⟩ ?_
  rintro k T _ ⟨i, hk, rfl, t0, t5, t7⟩
  simp only [go_sem, ↓reduceIte, Nat.reduceEqDiff, Nat.reduceAdd, Nat.reduceMul, Nat.reduceLT, Nat.reduceLeDiff, Int.reduceLT, Int.reduceLE, Int.reduceNeg, Int.reduceAdd, Int.reduceSub, Int.reduceMul, Int.reduceToNat, Int.reduceEq, Int.reduceNe, Int.cast_ofNat_Int, Int.natCast_one, Int.natCast_zero, Int.natCast_add, reduceCtorEq, t0, t5, t7]
  refine fork_dec (fun _ => ?_) (fun _ => ?_)
  · rename_i hi
    obtain ⟨x, hx⟩ : ∃ x, L[i]? = some x := ⟨L[i]'(by omega), List.getElem?_eq_getElem _⟩
    have hxf := v2 x (List.mem_of_getElem? hx)
    have o1 := hO i (by omega) (Nat.le_refl _)
    have o2 := hO (i + 1) (by omega) (Nat.le_refl _)
    have b1 := offsTo_bound L B v2 i
    have st := offsTo_step (B := B) hx
    have n1 := nextOff_le hxf (B.getD i false) b1.1
    have n2 := fun hk2 => nextOff_align hxf hk2 (B.getD i false) b1.1
    rw [← st] at n1 n2
    generalize (offsTo L B i).2 = a at *
    generalize (offsTo L B (i + 1)).2 = b at *
    obtain ⟨f1, f2, f3, f4⟩ := hxf
    have g0 : (L.flatMap Frag.cells)[i * 6]? = x.cells[0]? := by simpa using Frag.get x L i 0 hx (by omega)
    have fin : ∃ j, j < k ∧ ∃ i' : Nat, i' + j = L.length ∧ Value.int IntKind.i64 ((i : Int) + 1) = Value.int IntKind.i64 (i' : Int) := ⟨k - 1, by omega, i + 1, by omega, rfl⟩
    by_cases hk2 : x.kind = 2
    · obtain ⟨q1, q2⟩ := n2 hk2
      have q3 := f3 hk2
      have hnz : x.size ≠ 0 := by omega
      simp only [go_sem, ↓reduceIte, Nat.reduceEqDiff, Nat.reduceAdd, Nat.reduceMul, Nat.reduceLT, Nat.reduceLeDiff, Int.reduceLT, Int.reduceLE, Int.reduceNeg, Int.reduceAdd, Int.reduceSub, Int.reduceMul, Int.reduceToNat, Int.reduceEq, Int.reduceNe, Int.cast_ofNat_Int, Int.natCast_one, Int.natCast_zero, Int.natCast_add, reduceCtorEq, t0, t5, t7, hi, wrap64 (show -9223372036854775808 ≤ (i : Int) + 1 ∧ (i : Int) + 1 ≤ 9223372036854775807 by omega), hlp2, List.getElem?_map, o1, o2, show (i : Int) < (L.length : Int) + 1 by omega, show 0 ≤ (i : Int) + 1 ∧ (i : Int) + 1 < (L.length : Int) + 1 by omega, show ((i : Int) + 1).toNat = i + 1 by omega, show ¬ b < a by omega, look_app_lt hn, hl,
      g0, Frag.get x L i 1 hx (by omega), Frag.cells, hk2, show ¬ x.size < 1 by omega, i_rem hnz, q1, wrap64 (show -9223372036854775808 ≤ b - a ∧ b - a ≤ 9223372036854775807 by omega), show ¬ x.size ≤ b - a by omega]
      exact fin
    · simp only [go_sem, ↓reduceIte, Nat.reduceEqDiff, Nat.reduceAdd, Nat.reduceMul, Nat.reduceLT, Nat.reduceLeDiff, Int.reduceLT, Int.reduceLE, Int.reduceNeg, Int.reduceAdd, Int.reduceSub, Int.reduceMul, Int.reduceToNat, Int.reduceEq, Int.reduceNe, Int.cast_ofNat_Int, Int.natCast_one, Int.natCast_zero, Int.natCast_add, reduceCtorEq, t0, t5, t7, hi, wrap64 (show -9223372036854775808 ≤ (i : Int) + 1 ∧ (i : Int) + 1 ≤ 9223372036854775807 by omega), hlp2, List.getElem?_map, o1, o2, show (i : Int) < (L.length : Int) + 1 by omega, show 0 ≤ (i : Int) + 1 ∧ (i : Int) + 1 < (L.length : Int) + 1 by omega, show ((i : Int) + 1).toNat = i + 1 by omega, show ¬ b < a by omega, look_app_lt hn, hl,
      g0, Frag.get x L i 1 hx (by omega), Frag.cells, hk2]
      exact fin
  · rename_i hi
    simp only [go_sem, ↓reduceIte, Nat.reduceEqDiff, Nat.reduceAdd, Nat.reduceMul, Nat.reduceLT, Nat.reduceLeDiff, Int.reduceLT, Int.reduceLE, Int.reduceNeg, Int.reduceAdd, Int.reduceSub, Int.reduceMul, Int.reduceToNat, Int.reduceEq, Int.reduceNe, Int.cast_ofNat_Int, Int.natCast_one, Int.natCast_zero, Int.natCast_add, reduceCtorEq, hi]
end Go.Proofs.Ytcjhgnbkdiopkaa.Abs
