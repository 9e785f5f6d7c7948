import Derived.Test.YtkgdkommahgakaaDoorByt
namespace Go.Proofs.YtkgdkommahgakaaDoor.Abs
open Go Go.RowKit
set_option linter.unusedVariables false
set_option linter.unusedSimpArgs false
set_option maxRecDepth 100000

/-! ### lists of signs -/
def signs : List (List UInt8) := [[60, 60], [62, 62], [43], [45], [42], [47], [37], [38], [124], [94], [126], [40], [41], [44], [58], [61], [64]]
def ops : List (List UInt8) := [[43], [45], [42], [47], [37], [60, 60], [62, 62], [38], [94], [124]]
def vstr (l : List UInt8) : Value := .string (str l)
/-- The place of a string in a list, or -1. -/
def idx : List (List UInt8) → List UInt8 → Int
  | [], _ => -1
  | x :: L, s => if x = s then 0 else if idx L s = -1 then -1 else idx L s + 1
theorem idx_ge (L : List (List UInt8)) (s : List UInt8) : -1 ≤ idx L s := by
  induction L with
  | nil => exact Int.le_refl _
  | cons x L ih =>
    unfold idx
    split
    · omega
    · split <;> omega
theorem idx_hit : ∀ (L : List (List UInt8)) (s : List UInt8) (i : Nat), L[i]? = some s → s ∉ L.take i → idx L s = i
  | [], _, _, h, _ => by simp at h
  | x :: L, s, 0, h, _ => by
    simp only [List.getElem?_cons_zero, Option.some.injEq] at h
    simp [idx, h]
  | x :: L, s, i + 1, h, hn => by
    simp only [List.getElem?_cons_succ] at h
    simp only [List.take_succ_cons, List.mem_cons, not_or] at hn
    have := idx_hit L s i h hn.2
    rw [idx, if_neg (fun e => hn.1 e.symm), this, if_neg (by omega)]
    simp
theorem idx_miss : ∀ (L : List (List UInt8)) (s : List UInt8), s ∉ L → idx L s = -1
  | [], _, _ => rfl
  | x :: L, s, h => by
    simp only [List.mem_cons, not_or] at h
    rw [idx, if_neg (fun e => h.1 e.symm), idx_miss L s h.2, if_pos rfl]
theorem idx_mem {L : List (List UInt8)} {s : List UInt8} : 0 ≤ idx L s ↔ s ∈ L := by
  constructor
  · intro h
    by_cases hm : s ∈ L
    · exact hm
    · rw [idx_miss L s hm] at h; omega
  · intro h
    induction L with
    | nil => simp at h
    | cons x L ih =>
      unfold idx
      split
      · omega
      · rename_i hx
        have := ih (by simpa [Ne.symm (show x ≠ s from hx), eq_comm] using h)
        split <;> omega
theorem not_take {L : List (List UInt8)} {s x : List UInt8} {i : Nat} (h : L[i]? = some x) (hn : s ∉ L.take i) (hx : x ≠ s) : s ∉ L.take (i + 1) := by
  rw [List.take_add_one, h]
  simp only [List.mem_append, not_or]
  exact ⟨hn, by simpa using Ne.symm hx⟩

set_option maxHeartbeats 1000000 in
theorem f102_ok (X : Ext) (L : List (List UInt8)) (s : List UInt8) (n o c : Nat) (ow : Bool) (sz : Nat) (σ : Heap) (hl : look σ n = some ⟨L.map vstr, ow, sz⟩) (hL : L.length ≤ 1000000) :
    CW Tryd.prog X 102 [.slice (some ⟨n, 0, none⟩) L.length c, .string (str s)] σ fun v σ' => v = .int .i64 (idx L s) ∧ σ' = σ := by
  refine cw_in Tryd.func102 rfl Tryd.ntmps102 (rs := [.tmp 4]) rfl (by kernel_rfl) (by exact Nat.le_of_ble_eq_true rfl) ?_
  simp only [go_sem, ↓reduceIte, Nat.reduceEqDiff, Nat.reduceAdd, Nat.reduceMul, Nat.reduceLT, Nat.reduceLeDiff, Int.reduceLT, Int.reduceLE, Int.reduceNeg, Int.reduceAdd, Int.reduceSub, Int.reduceMul, Int.reduceToNat, Int.reduceEq, Int.reduceNe, Int.cast_ofNat_Int, Int.natCast_one, Int.natCast_zero, Int.natCast_add, reduceCtorEq]
  refine LW_run (fun k T σ' => ∃ i : Nat, i + k = L.length ∧ σ' = σ ∧ T 0 = .slice (some ⟨n, 0, none⟩) L.length c ∧ T 1 = .string (str s) ∧ T 7 = .int .i64 L.length ∧ T 8 = .int .i64 i ∧ s ∉ L.take i) L.length ⟨0, by simp, rfl, rfl, rfl, rfl, rfl, by simp⟩ ?_
  rintro k T _ ⟨i, hk, rfl, t0, t1, t7, t8, hv⟩
  simp only [go_sem, ↓reduceIte, Nat.reduceEqDiff, Nat.reduceAdd, Nat.reduceMul, Nat.reduceLT, Nat.reduceLeDiff, Int.reduceLT, Int.reduceLE, Int.reduceNeg, Int.reduceAdd, Int.reduceSub, Int.reduceMul, Int.reduceToNat, Int.reduceEq, Int.reduceNe, Int.cast_ofNat_Int, Int.natCast_one, Int.natCast_zero, Int.natCast_add, reduceCtorEq, t0, t1, t7, t8]
  refine fork_dec (fun _ => ?_) (fun _ => ?_)
  · rename_i hi
    have hw : IntKind.i64.wrap ((i : Int) + 1) = (i : Int) + 1 := wrap64 (by omega)
    obtain ⟨x, hx⟩ : ∃ x, L[i]? = some x := ⟨_, List.getElem?_eq_getElem (by omega)⟩
    simp only [go_sem, ↓reduceIte, Nat.reduceEqDiff, Nat.reduceAdd, Nat.reduceMul, Nat.reduceLT, Nat.reduceLeDiff, Int.reduceLT, Int.reduceLE, Int.reduceNeg, Int.reduceAdd, Int.reduceSub, Int.reduceMul, Int.reduceToNat, Int.reduceEq, Int.reduceNe, Int.cast_ofNat_Int, Int.natCast_one, Int.natCast_zero, Int.natCast_add, reduceCtorEq, t0, t1, t7, t8, hi, hl, List.getElem?_map, hx, vstr]
    refine fork_dec (fun _ => ?_) (fun _ => ?_)
    · rename_i he
      subst he
      simp only [go_sem, ↓reduceIte, Nat.reduceEqDiff, Nat.reduceAdd, Nat.reduceMul, Nat.reduceLT, Nat.reduceLeDiff, Int.reduceLT, Int.reduceLE, Int.reduceNeg, Int.reduceAdd, Int.reduceSub, Int.reduceMul, Int.reduceToNat, Int.reduceEq, Int.reduceNe, Int.cast_ofNat_Int, Int.natCast_one, Int.natCast_zero, Int.natCast_add, reduceCtorEq, t0, t1, t7, t8]
      rw [idx_hit L s i hx hv]
    · rename_i he
      simp only [go_sem, ↓reduceIte, Nat.reduceEqDiff, Nat.reduceAdd, Nat.reduceMul, Nat.reduceLT, Nat.reduceLeDiff, Int.reduceLT, Int.reduceLE, Int.reduceNeg, Int.reduceAdd, Int.reduceSub, Int.reduceMul, Int.reduceToNat, Int.reduceEq, Int.reduceNe, Int.cast_ofNat_Int, Int.natCast_one, Int.natCast_zero, Int.natCast_add, reduceCtorEq, t0, t1, t7, t8, hw, he]
      refine ⟨k - 1, by omega, i + 1, by omega, ?_⟩
      (repeat' (first | exact rfl | apply And.intro))
      exact not_take hx hv (Ne.symm he)
  · rename_i hi
    simp only [go_sem, ↓reduceIte, Nat.reduceEqDiff, Nat.reduceAdd, Nat.reduceMul, Nat.reduceLT, Nat.reduceLeDiff, Int.reduceLT, Int.reduceLE, Int.reduceNeg, Int.reduceAdd, Int.reduceSub, Int.reduceMul, Int.reduceToNat, Int.reduceEq, Int.reduceNe, Int.cast_ofNat_Int, Int.natCast_one, Int.natCast_zero, Int.natCast_add, reduceCtorEq, t0, hi]
    have e : i = L.length := by omega
    subst e
    rw [List.take_length] at hv
    rw [idx_miss L s hv]
set_option maxHeartbeats 1000000 in
theorem f75_ok (X : Ext) (s : List UInt8) (σ : Heap) : CW Tryd.prog X 75 [.string (str s)] σ fun v σ' => v = .bool (decide (s ∈ signs)) ∧ σ <+: σ' := by
  refine cw_in Tryd.func75 rfl Tryd.ntmps75 (rs := [.tmp 2]) rfl (by kernel_rfl) (by exact Nat.le_of_ble_eq_true rfl) ?_
  simp only [go_sem, ↓reduceIte, Nat.reduceEqDiff, Nat.reduceAdd, Nat.reduceMul, Nat.reduceLT, Nat.reduceLeDiff, Int.reduceLT, Int.reduceLE, Int.reduceNeg, Int.reduceAdd, Int.reduceSub, Int.reduceMul, Int.reduceToNat, Int.reduceEq, Int.reduceNe, Int.cast_ofNat_Int, Int.natCast_one, Int.natCast_zero, Int.natCast_add, reduceCtorEq]
  refine LW_run (fun k T σ' => ∃ i : Nat, i + k = 17 ∧ σ' = σ ++ [some ⟨signs.map vstr, true, 1⟩] ∧ T 0 = .string (str s) ∧ T 3 = .slice (some ⟨σ.length, 0, none⟩) 17 17 ∧ T 4 = .int .i64 i ∧ s ∉ signs.take i) 17 ⟨0, by simp, rfl, rfl, rfl, rfl, by simp⟩ ?_
  rintro k T _ ⟨i, hk, rfl, t0, t3, t4, hv⟩
  simp only [go_sem, ↓reduceIte, Nat.reduceEqDiff, Nat.reduceAdd, Nat.reduceMul, Nat.reduceLT, Nat.reduceLeDiff, Int.reduceLT, Int.reduceLE, Int.reduceNeg, Int.reduceAdd, Int.reduceSub, Int.reduceMul, Int.reduceToNat, Int.reduceEq, Int.reduceNe, Int.cast_ofNat_Int, Int.natCast_one, Int.natCast_zero, Int.natCast_add, reduceCtorEq, t0, t3, t4]
  refine fork_dec (fun _ => ?_) (fun _ => ?_)
  · rename_i hi
    have hw : IntKind.i64.wrap ((i : Int) + 1) = (i : Int) + 1 := wrap64 (by omega)
    obtain ⟨x, hx⟩ : ∃ x, signs[i]? = some x := ⟨_, List.getElem?_eq_getElem (show i < signs.length by show i < 17; omega)⟩
    simp only [go_sem, ↓reduceIte, Nat.reduceEqDiff, Nat.reduceAdd, Nat.reduceMul, Nat.reduceLT, Nat.reduceLeDiff, Int.reduceLT, Int.reduceLE, Int.reduceNeg, Int.reduceAdd, Int.reduceSub, Int.reduceMul, Int.reduceToNat, Int.reduceEq, Int.reduceNe, Int.cast_ofNat_Int, Int.natCast_one, Int.natCast_zero, Int.natCast_add, reduceCtorEq, t0, t3, t4, hi, List.getElem?_map, hx, vstr]
    refine fork_dec (fun _ => ?_) (fun _ => ?_)
    · rename_i he
      subst he
      simp only [go_sem, ↓reduceIte, Nat.reduceEqDiff, Nat.reduceAdd, Nat.reduceMul, Nat.reduceLT, Nat.reduceLeDiff, Int.reduceLT, Int.reduceLE, Int.reduceNeg, Int.reduceAdd, Int.reduceSub, Int.reduceMul, Int.reduceToNat, Int.reduceEq, Int.reduceNe, Int.cast_ofNat_Int, Int.natCast_one, Int.natCast_zero, Int.natCast_add, reduceCtorEq, t0, t3, t4]
      exact ⟨congrArg _ (decide_eq_true (List.mem_of_getElem? hx)).symm, List.prefix_append _ _⟩
    · rename_i he
      simp only [go_sem, ↓reduceIte, Nat.reduceEqDiff, Nat.reduceAdd, Nat.reduceMul, Nat.reduceLT, Nat.reduceLeDiff, Int.reduceLT, Int.reduceLE, Int.reduceNeg, Int.reduceAdd, Int.reduceSub, Int.reduceMul, Int.reduceToNat, Int.reduceEq, Int.reduceNe, Int.cast_ofNat_Int, Int.natCast_one, Int.natCast_zero, Int.natCast_add, reduceCtorEq, t0, t3, t4, hw, he]
      refine ⟨k - 1, by omega, i + 1, by omega, ?_⟩
      (repeat' (first | exact rfl | apply And.intro))
      exact not_take hx hv he
  · rename_i hi
    simp only [go_sem, ↓reduceIte, Nat.reduceEqDiff, Nat.reduceAdd, Nat.reduceMul, Nat.reduceLT, Nat.reduceLeDiff, Int.reduceLT, Int.reduceLE, Int.reduceNeg, Int.reduceAdd, Int.reduceSub, Int.reduceMul, Int.reduceToNat, Int.reduceEq, Int.reduceNe, Int.cast_ofNat_Int, Int.natCast_one, Int.natCast_zero, Int.natCast_add, reduceCtorEq, t0, hi]
    have e : i = 17 := by omega
    subst e
    exact ⟨congrArg _ (decide_eq_false (by simpa [signs] using hv)).symm, List.prefix_append _ _⟩

/-! ### numbers in decimal -/
def dec (n : Nat) : List UInt8 := if n < 10 then [UInt8.ofNat (48 + n)] else dec (n / 10) ++ [UInt8.ofNat (48 + n % 10)]
def num (n : Int) : List UInt8 := if n < 0 then 45 :: dec (-n).toNat else dec n.toNat
theorem dec_len : ∀ (k n : Nat), n < 10 ^ (k + 1) → (dec n).length ≤ k + 1
  | 0, n, h => by unfold dec; rw [if_pos (by simpa using h)]; simp
  | k + 1, n, h => by
    unfold dec
    split
    · simp
    · have := dec_len k (n / 10) (by rw [Nat.pow_succ] at h; omega)
      simp
      omega
theorem digs (n : Nat) (h : n < 10) : (([48, 49, 50, 51, 52, 53, 54, 55, 56, 57] : List UInt8).drop n).take 1 = [UInt8.ofNat (48 + n)] := by
  have : ∀ n : Fin 10, (([48, 49, 50, 51, 52, 53, 54, 55, 56, 57] : List UInt8).drop n.val).take 1 = [UInt8.ofNat (48 + n.val)] := by decide
  exact this ⟨n, h⟩
theorem wrapu {n : Int} (h : 0 ≤ n ∧ n < 18446744073709551616) : IntKind.u64.wrap n = n := by
  unfold IntKind.wrap
  simp only [IntKind.signed, IntKind.bits]
  have : n % 2 ^ 64 = n := Int.emod_eq_of_lt h.1 (by simpa using h.2)
  simpa using this
set_option maxHeartbeats 1000000 in
theorem f104_ok (X : Ext) : ∀ (k n : Nat), n < 10 ^ (k + 1) → k < 20 → n < 18446744073709551616 → ∀ σ : Heap, CW Tryd.prog X 104 [.int .u64 n] σ fun v σ' => v = .string (str (dec n)) ∧ σ' = σ := by
  intro k
  induction k with
  | zero =>
    intro n hn _ hb σ
    have h10 : n < 10 := by simpa using hn
    refine cw_in Tryd.func104 rfl Tryd.ntmps104 (rs := [.tmp 2]) rfl (by kernel_rfl) (by exact Nat.le_of_ble_eq_true rfl) ?_
    simp only [go_sem, ↓reduceIte, Nat.reduceEqDiff, Nat.reduceAdd, Nat.reduceMul, Nat.reduceLT, Nat.reduceLeDiff, Int.reduceLT, Int.reduceLE, Int.reduceNeg, Int.reduceAdd, Int.reduceSub, Int.reduceMul, Int.reduceToNat, Int.reduceEq, Int.reduceNe, Int.cast_ofNat_Int, Int.natCast_one, Int.natCast_zero, Int.natCast_add, reduceCtorEq, show (n : Int) < 10 by omega, wrapu (show 0 ≤ (n : Int) + 1 ∧ (n : Int) + 1 < 18446744073709551616 by omega), show (n : Int) ≤ (n : Int) + 1 by omega, show 0 ≤ (n : Int) by omega, show (n : Int) + 1 ≤ 10 by omega, show ((n : Int) + 1).toNat - n = 1 by omega, digs n h10]
    rw [dec, if_pos h10]
  | succ k ih =>
    intro n hn hk hb σ
    refine cw_in Tryd.func104 rfl Tryd.ntmps104 (rs := [.tmp 2]) rfl (by kernel_rfl) (by exact Nat.le_of_ble_eq_true rfl) ?_
    by_cases h10 : n < 10
    · simp only [go_sem, ↓reduceIte, Nat.reduceEqDiff, Nat.reduceAdd, Nat.reduceMul, Nat.reduceLT, Nat.reduceLeDiff, Int.reduceLT, Int.reduceLE, Int.reduceNeg, Int.reduceAdd, Int.reduceSub, Int.reduceMul, Int.reduceToNat, Int.reduceEq, Int.reduceNe, Int.cast_ofNat_Int, Int.natCast_one, Int.natCast_zero, Int.natCast_add, reduceCtorEq, show (n : Int) < 10 by omega, wrapu (show 0 ≤ (n : Int) + 1 ∧ (n : Int) + 1 < 18446744073709551616 by omega), show (n : Int) ≤ (n : Int) + 1 by omega, show 0 ≤ (n : Int) by omega, show (n : Int) + 1 ≤ 10 by omega, show ((n : Int) + 1).toNat - n = 1 by omega, digs n h10]
      rw [dec, if_pos h10]
    · have e1 : (n : Int).tdiv 10 = ((n / 10 : Nat) : Int) := by rw [Int.tdiv_eq_ediv_of_nonneg (by omega)]; rfl
      have e2 : (n : Int).tmod 10 = ((n % 10 : Nat) : Int) := by rw [Int.tmod_eq_emod_of_nonneg (by omega)]; rfl
      simp only [go_sem, ↓reduceIte, Nat.reduceEqDiff, Nat.reduceAdd, Nat.reduceMul, Nat.reduceLT, Nat.reduceLeDiff, Int.reduceLT, Int.reduceLE, Int.reduceNeg, Int.reduceAdd, Int.reduceSub, Int.reduceMul, Int.reduceToNat, Int.reduceEq, Int.reduceNe, Int.cast_ofNat_Int, Int.natCast_one, Int.natCast_zero, Int.natCast_add, reduceCtorEq, show ¬ (n : Int) < 10 by omega, i_quo (show (10 : Int) ≠ 0 by omega), i_rem (show (10 : Int) ≠ 0 by omega), e1, e2, wrapu (show 0 ≤ ((n / 10 : Nat) : Int) ∧ ((n / 10 : Nat) : Int) < 18446744073709551616 by omega)]
      refine (ih (n / 10) (by rw [Nat.pow_succ] at hn; omega) (by omega) (by omega) σ).mono ?_
      rintro _ _ ⟨rfl, rfl⟩
      have hlen := dec_len k (n / 10) (by rw [Nat.pow_succ] at hn; omega)
      have h3 : n % 10 < 10 := Nat.mod_lt _ (by omega)
      generalize hm : n % 10 = m at *
      simp only [go_sem, ↓reduceIte, Nat.reduceEqDiff, Nat.reduceAdd, Nat.reduceMul, Nat.reduceLT, Nat.reduceLeDiff, Int.reduceLT, Int.reduceLE, Int.reduceNeg, Int.reduceAdd, Int.reduceSub, Int.reduceMul, Int.reduceToNat, Int.reduceEq, Int.reduceNe, Int.cast_ofNat_Int, Int.natCast_one, Int.natCast_zero, Int.natCast_add, reduceCtorEq, i_rem (show (10 : Int) ≠ 0 by omega), e2, wrapu (show 0 ≤ (m : Int) + 1 ∧ (m : Int) + 1 < 18446744073709551616 by omega), show (m : Int) ≤ (m : Int) + 1 by omega, show 0 ≤ (m : Int) by omega, show (m : Int) + 1 ≤ 10 by omega, show ((m : Int) + 1).toNat - m = 1 by omega, digs m h3, sadd (show (dec (n / 10)).length + [UInt8.ofNat (48 + m)].length ≤ 9223372036854775807 by simp; omega)]
      rw [dec.eq_def n, if_neg h10, hm]
set_option maxHeartbeats 1000000 in
theorem f77_ok (X : Ext) (n : Int) (hn : -9223372036854775808 ≤ n ∧ n ≤ 9223372036854775807) (σ : Heap) : CW Tryd.prog X 77 [.int .i64 n] σ fun v σ' => v = .string (str (num n)) ∧ σ' = σ := by
  refine cw_in Tryd.func77 rfl Tryd.ntmps77 (rs := [.tmp 2]) rfl (by kernel_rfl) (by exact Nat.le_of_ble_eq_true rfl) ?_
  by_cases h : n < 0
  · obtain ⟨m, hm⟩ : ∃ m : Nat, -n = (m : Int) := ⟨(-n).toNat, by omega⟩
    have e : n = -(m : Int) := by omega
    subst e
    simp only [go_sem, ↓reduceIte, Nat.reduceEqDiff, Nat.reduceAdd, Nat.reduceMul, Nat.reduceLT, Nat.reduceLeDiff, Int.reduceLT, Int.reduceLE, Int.reduceNeg, Int.reduceAdd, Int.reduceSub, Int.reduceMul, Int.reduceToNat, Int.reduceEq, Int.reduceNe, Int.cast_ofNat_Int, Int.natCast_one, Int.natCast_zero, Int.natCast_add, reduceCtorEq, h, wrap64 (show -9223372036854775808 ≤ -(m : Int) + 1 ∧ -(m : Int) + 1 ≤ 9223372036854775807 by omega), wrap64 (show -9223372036854775808 ≤ 0 - (-(m : Int) + 1) ∧ 0 - (-(m : Int) + 1) ≤ 9223372036854775807 by omega), wrapu (show 0 ≤ 0 - (-(m : Int) + 1) ∧ 0 - (-(m : Int) + 1) < 18446744073709551616 by omega), wrapu (show 0 ≤ 0 - (-(m : Int) + 1) + 1 ∧ 0 - (-(m : Int) + 1) + 1 < 18446744073709551616 by omega)]
    rw [show 0 - (-(m : Int) + 1) + 1 = (m : Int) by omega]
    refine (f104_ok X 19 m (by omega) (by omega) (by omega) _).mono ?_
    rintro _ _ ⟨rfl, rfl⟩
    have := dec_len 19 m (by omega)
    simp only [go_sem, ↓reduceIte, Nat.reduceEqDiff, Nat.reduceAdd, Nat.reduceMul, Nat.reduceLT, Nat.reduceLeDiff, Int.reduceLT, Int.reduceLE, Int.reduceNeg, Int.reduceAdd, Int.reduceSub, Int.reduceMul, Int.reduceToNat, Int.reduceEq, Int.reduceNe, Int.cast_ofNat_Int, Int.natCast_one, Int.natCast_zero, Int.natCast_add, reduceCtorEq, sadd (show [45].length + (dec m).length ≤ 9223372036854775807 by simp; omega)]
    rw [num, if_pos h]
    simp
  · obtain ⟨m, hm⟩ : ∃ m : Nat, n = (m : Int) := ⟨n.toNat, by omega⟩
    subst hm
    simp only [go_sem, ↓reduceIte, Nat.reduceEqDiff, Nat.reduceAdd, Nat.reduceMul, Nat.reduceLT, Nat.reduceLeDiff, Int.reduceLT, Int.reduceLE, Int.reduceNeg, Int.reduceAdd, Int.reduceSub, Int.reduceMul, Int.reduceToNat, Int.reduceEq, Int.reduceNe, Int.cast_ofNat_Int, Int.natCast_one, Int.natCast_zero, Int.natCast_add, reduceCtorEq, h, wrapu (show 0 ≤ (m : Int) ∧ (m : Int) < 18446744073709551616 by omega)]
    refine (f104_ok X 19 m (by omega) (by omega) (by omega) _).mono ?_
    rintro _ _ ⟨rfl, rfl⟩
    simp only [go_sem, ↓reduceIte, Nat.reduceEqDiff, Nat.reduceAdd, Nat.reduceMul, Nat.reduceLT, Nat.reduceLeDiff, Int.reduceLT, Int.reduceLE, Int.reduceNeg, Int.reduceAdd, Int.reduceSub, Int.reduceMul, Int.reduceToNat, Int.reduceEq, Int.reduceNe, Int.cast_ofNat_Int, Int.natCast_one, Int.natCast_zero, Int.natCast_add, reduceCtorEq]
    rw [num, if_neg h]
    simp

/-! ### what a string denotes -/
def hexv (c : Int) : Int := if 48 ≤ c ∧ c ≤ 57 then c - 48 else if 97 ≤ c ∧ c ≤ 102 then c - 97 + 10 else if 65 ≤ c ∧ c ≤ 70 then c - 65 + 10 else -1
theorem hexv_le {c : Int} (h : 0 ≤ c) : -1 ≤ hexv c ∧ hexv c ≤ 15 := by
  unfold hexv
  repeat' split
  all_goals omega
theorem f103_ok (X : Ext) (c : Int) (hc : 0 ≤ c ∧ c ≤ 255) (σ : Heap) : CW Tryd.prog X 103 [.int .u8 c] σ fun v σ' => v = .int .i64 (hexv c) ∧ σ' = σ := by
  refine cw_in Tryd.func103 rfl Tryd.ntmps103 (rs := [.tmp 2]) rfl (by kernel_rfl) (by exact Nat.le_of_ble_eq_true rfl) ?_
  have hw : IntKind.i64.wrap c = c := wrap64 (by omega)
  simp only [go_sem, ↓reduceIte, Nat.reduceEqDiff, Nat.reduceAdd, Nat.reduceMul, Nat.reduceLT, Nat.reduceLeDiff, Int.reduceLT, Int.reduceLE, Int.reduceNeg, Int.reduceAdd, Int.reduceSub, Int.reduceMul, Int.reduceToNat, Int.reduceEq, Int.reduceNe, Int.cast_ofNat_Int, Int.natCast_one, Int.natCast_zero, Int.natCast_add, reduceCtorEq, hw]
  refine (f22_ok X c _ _ _).mono ?_
  rintro _ _ ⟨rfl, rfl⟩
  simp only [go_sem, ↓reduceIte, Nat.reduceEqDiff, Nat.reduceAdd, Nat.reduceMul, Nat.reduceLT, Nat.reduceLeDiff, Int.reduceLT, Int.reduceLE, Int.reduceNeg, Int.reduceAdd, Int.reduceSub, Int.reduceMul, Int.reduceToNat, Int.reduceEq, Int.reduceNe, Int.cast_ofNat_Int, Int.natCast_one, Int.natCast_zero, Int.natCast_add, reduceCtorEq]
  refine fork_dec (fun _ => ?_) (fun _ => ?_)
  · rename_i h1
    simp only [go_sem, ↓reduceIte, Nat.reduceEqDiff, Nat.reduceAdd, Nat.reduceMul, Nat.reduceLT, Nat.reduceLeDiff, Int.reduceLT, Int.reduceLE, Int.reduceNeg, Int.reduceAdd, Int.reduceSub, Int.reduceMul, Int.reduceToNat, Int.reduceEq, Int.reduceNe, Int.cast_ofNat_Int, Int.natCast_one, Int.natCast_zero, Int.natCast_add, reduceCtorEq, wrap64 (show -9223372036854775808 ≤ c - 48 ∧ c - 48 ≤ 9223372036854775807 by omega)]
    simp only [hexv, h1, and_self, if_true]
  · rename_i h1
    simp only [go_sem, ↓reduceIte, Nat.reduceEqDiff, Nat.reduceAdd, Nat.reduceMul, Nat.reduceLT, Nat.reduceLeDiff, Int.reduceLT, Int.reduceLE, Int.reduceNeg, Int.reduceAdd, Int.reduceSub, Int.reduceMul, Int.reduceToNat, Int.reduceEq, Int.reduceNe, Int.cast_ofNat_Int, Int.natCast_one, Int.natCast_zero, Int.natCast_add, reduceCtorEq]
    refine (f22_ok X c _ _ _).mono ?_
    rintro _ _ ⟨rfl, rfl⟩
    simp only [go_sem, ↓reduceIte, Nat.reduceEqDiff, Nat.reduceAdd, Nat.reduceMul, Nat.reduceLT, Nat.reduceLeDiff, Int.reduceLT, Int.reduceLE, Int.reduceNeg, Int.reduceAdd, Int.reduceSub, Int.reduceMul, Int.reduceToNat, Int.reduceEq, Int.reduceNe, Int.cast_ofNat_Int, Int.natCast_one, Int.natCast_zero, Int.natCast_add, reduceCtorEq]
    refine fork_dec (fun _ => ?_) (fun _ => ?_)
    · rename_i h2
      simp only [go_sem, ↓reduceIte, Nat.reduceEqDiff, Nat.reduceAdd, Nat.reduceMul, Nat.reduceLT, Nat.reduceLeDiff, Int.reduceLT, Int.reduceLE, Int.reduceNeg, Int.reduceAdd, Int.reduceSub, Int.reduceMul, Int.reduceToNat, Int.reduceEq, Int.reduceNe, Int.cast_ofNat_Int, Int.natCast_one, Int.natCast_zero, Int.natCast_add, reduceCtorEq, wrap64 (show -9223372036854775808 ≤ c - 97 ∧ c - 97 ≤ 9223372036854775807 by omega), wrap64 (show -9223372036854775808 ≤ c - 97 + 10 ∧ c - 97 + 10 ≤ 9223372036854775807 by omega)]
      simp only [hexv, if_neg h1, if_pos h2]
    · rename_i h2
      simp only [go_sem, ↓reduceIte, Nat.reduceEqDiff, Nat.reduceAdd, Nat.reduceMul, Nat.reduceLT, Nat.reduceLeDiff, Int.reduceLT, Int.reduceLE, Int.reduceNeg, Int.reduceAdd, Int.reduceSub, Int.reduceMul, Int.reduceToNat, Int.reduceEq, Int.reduceNe, Int.cast_ofNat_Int, Int.natCast_one, Int.natCast_zero, Int.natCast_add, reduceCtorEq]
      refine (f22_ok X c _ _ _).mono ?_
      rintro _ _ ⟨rfl, rfl⟩
      simp only [go_sem, ↓reduceIte, Nat.reduceEqDiff, Nat.reduceAdd, Nat.reduceMul, Nat.reduceLT, Nat.reduceLeDiff, Int.reduceLT, Int.reduceLE, Int.reduceNeg, Int.reduceAdd, Int.reduceSub, Int.reduceMul, Int.reduceToNat, Int.reduceEq, Int.reduceNe, Int.cast_ofNat_Int, Int.natCast_one, Int.natCast_zero, Int.natCast_add, reduceCtorEq]
      refine fork_dec (fun _ => ?_) (fun _ => ?_)
      · rename_i h3
        simp only [go_sem, ↓reduceIte, Nat.reduceEqDiff, Nat.reduceAdd, Nat.reduceMul, Nat.reduceLT, Nat.reduceLeDiff, Int.reduceLT, Int.reduceLE, Int.reduceNeg, Int.reduceAdd, Int.reduceSub, Int.reduceMul, Int.reduceToNat, Int.reduceEq, Int.reduceNe, Int.cast_ofNat_Int, Int.natCast_one, Int.natCast_zero, Int.natCast_add, reduceCtorEq, wrap64 (show -9223372036854775808 ≤ c - 65 ∧ c - 65 ≤ 9223372036854775807 by omega), wrap64 (show -9223372036854775808 ≤ c - 65 + 10 ∧ c - 65 + 10 ≤ 9223372036854775807 by omega)]
        simp only [hexv, if_neg h1, if_neg h2, if_pos h3]
      · rename_i h3
        simp only [go_sem, ↓reduceIte, Nat.reduceEqDiff, Nat.reduceAdd, Nat.reduceMul, Nat.reduceLT, Nat.reduceLeDiff, Int.reduceLT, Int.reduceLE, Int.reduceNeg, Int.reduceAdd, Int.reduceSub, Int.reduceMul, Int.reduceToNat, Int.reduceEq, Int.reduceNe, Int.cast_ofNat_Int, Int.natCast_one, Int.natCast_zero, Int.natCast_add, reduceCtorEq]
        simp only [hexv, if_neg h1, if_neg h2, if_neg h3]
def denL (base : Int) : Int → List UInt8 → Option Int
  | a, [] => some a
  | a, b :: l => if hexv b.toNat < 0 ∨ base ≤ hexv b.toNat then none else if 4294967296 ≤ a * base + hexv b.toNat then none else denL base (a * base + hexv b.toNat) l
def hexy (l : List UInt8) : Bool := decide (2 < l.length) && (decide (l[0]? = some 48) && decide (l[1]? = some 120))
def denB (l : List UInt8) : Int := if hexy l = true then 16 else 10
def denF (l : List UInt8) : Nat := if hexy l = true then 2 else 0
def den (l : List UInt8) : Int × Bool := match denL (denB l) 0 (l.drop (denF l)) with
  | none => (0, false)
  | some n => (n, decide (denF l < l.length) && (decide (denB l = 16) || (decide (l.length = 1) || !decide (l[0]? = some 48))))
theorem denL_at {base a : Int} {l : List UInt8} {i : Nat} {b : UInt8} (h : l[i]? = some b) : denL base a (l.drop i) = if hexv b.toNat < 0 ∨ base ≤ hexv b.toNat then none else if 4294967296 ≤ a * base + hexv b.toNat then none else denL base (a * base + hexv b.toNat) (l.drop (i + 1)) := by
  obtain ⟨hi, rfl⟩ := List.getElem?_eq_some_iff.1 h
  rw [List.drop_eq_getElem_cons hi, denL]
theorem u8_eq (b : UInt8) (n : Nat) (h : n < 256) : ((b.toNat : Int) = (n : Int)) = (b = UInt8.ofNat n) := by
  apply propext
  constructor
  · intro e
    apply UInt8.toNat_inj.1
    rw [UInt8.toNat_ofNat_of_lt' (by simpa [UInt8.size] using h)]
    omega
  · rintro rfl
    rw [UInt8.toNat_ofNat_of_lt' (by simpa [UInt8.size] using h)]

set_option maxHeartbeats 2000000 in
theorem f76_ok (X : Ext) (l : List UInt8) (hs : l.length ≤ 140737488351232) (σ : Heap) : CW Tryd.prog X 76 [.string (str l)] σ fun v σ' => v = .tuple #[.int .i64 (den l).1, .bool (den l).2] ∧ σ' = σ := by
  refine cw_in Tryd.func76 rfl Tryd.ntmps76 (rs := [.tmp 2, .tmp 3]) rfl (by kernel_rfl) (by exact Nat.le_of_ble_eq_true rfl) ?_
  have b48 : ∀ b : UInt8, ((b.toNat : Int) = 48) = (b = 48) := fun b => u8_eq b 48 (by omega)
  have b120 : ∀ b : UInt8, ((b.toNat : Int) = 120) = (b = 120) := fun b => u8_eq b 120 (by omega)
  have b48' : ∀ b : UInt8, ((b.toNat : Int) ≠ 48) = (b ≠ 48) := fun b => by rw [ne_eq, b48]
  have hden : ∀ base : Int, ∀ f : Nat, denB l = base → denF l = f → den l = match denL base 0 (l.drop f) with
      | none => (0, false)
      | some n => (n, decide (f < l.length) && (decide (base = 16) || (decide (l.length = 1) || !decide (l[0]? = some 48)))) := by
    rintro _ _ rfl rfl; rfl
  by_cases hy : hexy l = true
  · have hbase : denB l = 16 := by rw [denB, if_pos hy]
    have hfrom : denF l = 2 := by rw [denF, if_pos hy]
    unfold hexy at hy
    simp only [Bool.and_eq_true, decide_eq_true_eq] at hy
    obtain ⟨y1, y2, y3⟩ := hy
    simp only [go_sem, ↓reduceIte, Nat.reduceEqDiff, Nat.reduceAdd, Nat.reduceMul, Nat.reduceLT, Nat.reduceLeDiff, Int.reduceLT, Int.reduceLE, Int.reduceNeg, Int.reduceAdd, Int.reduceSub, Int.reduceMul, Int.reduceToNat, Int.reduceEq, Int.reduceNe, Int.cast_ofNat_Int, Int.natCast_one, Int.natCast_zero, Int.natCast_add, reduceCtorEq, show (2 : Int) < (l.length : Int) by omega, y2, y3, show ((48 : UInt8).toNat : Int) = 48 from rfl, show ((120 : UInt8).toNat : Int) = 120 from rfl]
    refine LW_run (fun k T σ' => ∃ (i : Nat) (a : Int), i + k = l.length ∧ 2 ≤ i ∧ σ' = σ ∧ T 0 = .string (str l) ∧ T 4 = .int .i64 16 ∧ T 5 = .int .i64 2 ∧ T 6 = .int .i64 a ∧ T 7 = .int .i64 i ∧ 0 ≤ a ∧ a < 4294967296 ∧ denL 16 0 (l.drop 2) = denL 16 a (l.drop i)) (l.length - 2) ⟨2, 0, by omega, Nat.le_refl _, rfl, rfl, rfl, rfl, rfl, rfl, by omega, by omega, rfl⟩ ?_
    rintro k T _ ⟨i, a, hk, hfi, rfl, t0, t4, t5, t6, t7, ha0, ha1, hv⟩
    simp only [go_sem, ↓reduceIte, Nat.reduceEqDiff, Nat.reduceAdd, Nat.reduceMul, Nat.reduceLT, Nat.reduceLeDiff, Int.reduceLT, Int.reduceLE, Int.reduceNeg, Int.reduceAdd, Int.reduceSub, Int.reduceMul, Int.reduceToNat, Int.reduceEq, Int.reduceNe, Int.cast_ofNat_Int, Int.natCast_one, Int.natCast_zero, Int.natCast_add, reduceCtorEq, t0, t4, t5, t6, t7]
    refine fork_dec (fun _ => ?_) (fun _ => ?_)
    · rename_i hi
      obtain ⟨b, hb⟩ : ∃ b, l[i]? = some b := ⟨_, List.getElem?_eq_getElem (by omega)⟩
      have hbb := UInt8.toNat_lt b
      have hx := hexv_le (c := (b.toNat : Int)) (by omega)
      rw [denL_at hb] at hv
      simp only [go_sem, ↓reduceIte, Nat.reduceEqDiff, Nat.reduceAdd, Nat.reduceMul, Nat.reduceLT, Nat.reduceLeDiff, Int.reduceLT, Int.reduceLE, Int.reduceNeg, Int.reduceAdd, Int.reduceSub, Int.reduceMul, Int.reduceToNat, Int.reduceEq, Int.reduceNe, Int.cast_ofNat_Int, Int.natCast_one, Int.natCast_zero, Int.natCast_add, reduceCtorEq, t0, t4, t5, t6, t7, hi, hb]
      refine (f103_ok X _ (by omega) _).mono ?_
      rintro _ _ ⟨rfl, rfl⟩
      generalize hexv (b.toNat : Int) = x at *
      by_cases h1 : x < 0
      · rw [if_pos (.inl h1)] at hv
        simp only [go_sem, ↓reduceIte, Nat.reduceEqDiff, Nat.reduceAdd, Nat.reduceMul, Nat.reduceLT, Nat.reduceLeDiff, Int.reduceLT, Int.reduceLE, Int.reduceNeg, Int.reduceAdd, Int.reduceSub, Int.reduceMul, Int.reduceToNat, Int.reduceEq, Int.reduceNe, Int.cast_ofNat_Int, Int.natCast_one, Int.natCast_zero, Int.natCast_add, reduceCtorEq, t0, t4, t5, t6, t7, h1]
        rw [hden 16 2 hbase hfrom, hv]
      · by_cases h2 : (16 : Int) ≤ x
        · rw [if_pos (.inr h2)] at hv
          simp only [go_sem, ↓reduceIte, Nat.reduceEqDiff, Nat.reduceAdd, Nat.reduceMul, Nat.reduceLT, Nat.reduceLeDiff, Int.reduceLT, Int.reduceLE, Int.reduceNeg, Int.reduceAdd, Int.reduceSub, Int.reduceMul, Int.reduceToNat, Int.reduceEq, Int.reduceNe, Int.cast_ofNat_Int, Int.natCast_one, Int.natCast_zero, Int.natCast_add, reduceCtorEq, t0, t4, t5, t6, t7, h1, h2]
          rw [hden 16 2 hbase hfrom, hv]
        · rw [if_neg (by omega)] at hv
          simp only [go_sem, ↓reduceIte, Nat.reduceEqDiff, Nat.reduceAdd, Nat.reduceMul, Nat.reduceLT, Nat.reduceLeDiff, Int.reduceLT, Int.reduceLE, Int.reduceNeg, Int.reduceAdd, Int.reduceSub, Int.reduceMul, Int.reduceToNat, Int.reduceEq, Int.reduceNe, Int.cast_ofNat_Int, Int.natCast_one, Int.natCast_zero, Int.natCast_add, reduceCtorEq, t0, t4, t5, t6, t7, h1, h2, wrap64 (show -9223372036854775808 ≤ a * 16 ∧ a * 16 ≤ 9223372036854775807 by omega), wrap64 (show -9223372036854775808 ≤ a * 16 + x ∧ a * 16 + x ≤ 9223372036854775807 by omega)]
          refine fork_dec (fun _ => ?_) (fun _ => ?_)
          · rename_i h3
            rw [if_pos h3] at hv
            simp only [go_sem, ↓reduceIte, Nat.reduceEqDiff, Nat.reduceAdd, Nat.reduceMul, Nat.reduceLT, Nat.reduceLeDiff, Int.reduceLT, Int.reduceLE, Int.reduceNeg, Int.reduceAdd, Int.reduceSub, Int.reduceMul, Int.reduceToNat, Int.reduceEq, Int.reduceNe, Int.cast_ofNat_Int, Int.natCast_one, Int.natCast_zero, Int.natCast_add, reduceCtorEq]
            rw [hden 16 2 hbase hfrom, hv]
          · rename_i h3
            rw [if_neg h3] at hv
            simp only [go_sem, ↓reduceIte, Nat.reduceEqDiff, Nat.reduceAdd, Nat.reduceMul, Nat.reduceLT, Nat.reduceLeDiff, Int.reduceLT, Int.reduceLE, Int.reduceNeg, Int.reduceAdd, Int.reduceSub, Int.reduceMul, Int.reduceToNat, Int.reduceEq, Int.reduceNe, Int.cast_ofNat_Int, Int.natCast_one, Int.natCast_zero, Int.natCast_add, reduceCtorEq, t0, t4, t5, t6, t7, wrap64 (show -9223372036854775808 ≤ (i : Int) + 1 ∧ (i : Int) + 1 ≤ 9223372036854775807 by omega)]
            refine ⟨k - 1, by omega, i + 1, a * 16 + x, by omega, by omega, ?_⟩
            (repeat' (first | exact rfl | apply And.intro))
            · omega
            · omega
            · exact hv
    · rename_i hi
      rw [show l.drop i = [] from List.drop_eq_nil_of_le (by omega), denL] at hv
      rw [hden 16 2 hbase hfrom, hv]
      by_cases hF : (2 : Int) < (l.length : Int)
      · obtain ⟨c0, z0⟩ : ∃ b, l[0]? = some b := ⟨_, List.getElem?_eq_getElem (by omega)⟩
        have hF' : 2 < l.length := by omega
        by_cases h1 : l.length = 1
        · simp only [go_sem, ↓reduceIte, Nat.reduceEqDiff, Nat.reduceAdd, Nat.reduceMul, Nat.reduceLT, Nat.reduceLeDiff, Int.reduceLT, Int.reduceLE, Int.reduceNeg, Int.reduceAdd, Int.reduceSub, Int.reduceMul, Int.reduceToNat, Int.reduceEq, Int.reduceNe, Int.cast_ofNat_Int, Int.natCast_one, Int.natCast_zero, Int.natCast_add, reduceCtorEq, t0, t4, t5, t6, t7, hi, hF, hF', show (l.length : Int) = 1 by omega, h1, z0]
          try simp
        · by_cases h48 : c0 = 48
          · simp only [go_sem, ↓reduceIte, Nat.reduceEqDiff, Nat.reduceAdd, Nat.reduceMul, Nat.reduceLT, Nat.reduceLeDiff, Int.reduceLT, Int.reduceLE, Int.reduceNeg, Int.reduceAdd, Int.reduceSub, Int.reduceMul, Int.reduceToNat, Int.reduceEq, Int.reduceNe, Int.cast_ofNat_Int, Int.natCast_one, Int.natCast_zero, Int.natCast_add, reduceCtorEq, t0, t4, t5, t6, t7, hi, hF, hF', show ¬ (l.length : Int) = 1 by omega, h1, z0, h48, show ((48 : UInt8).toNat : Int) = 48 from rfl]
            try simp
          · simp only [go_sem, ↓reduceIte, Nat.reduceEqDiff, Nat.reduceAdd, Nat.reduceMul, Nat.reduceLT, Nat.reduceLeDiff, Int.reduceLT, Int.reduceLE, Int.reduceNeg, Int.reduceAdd, Int.reduceSub, Int.reduceMul, Int.reduceToNat, Int.reduceEq, Int.reduceNe, Int.cast_ofNat_Int, Int.natCast_one, Int.natCast_zero, Int.natCast_add, reduceCtorEq, t0, t4, t5, t6, t7, hi, hF, hF', show ¬ (l.length : Int) = 1 by omega, h1, z0, h48, b48, Option.some.injEq]
            try simp
      · simp only [go_sem, ↓reduceIte, Nat.reduceEqDiff, Nat.reduceAdd, Nat.reduceMul, Nat.reduceLT, Nat.reduceLeDiff, Int.reduceLT, Int.reduceLE, Int.reduceNeg, Int.reduceAdd, Int.reduceSub, Int.reduceMul, Int.reduceToNat, Int.reduceEq, Int.reduceNe, Int.cast_ofNat_Int, Int.natCast_one, Int.natCast_zero, Int.natCast_add, reduceCtorEq, t0, t4, t5, t6, t7, hi, hF, show ¬ 2 < l.length by omega]
  · have hbase : denB l = 10 := by rw [denB, if_neg hy]
    have hfrom : denF l = 0 := by rw [denF, if_neg hy]
    unfold hexy at hy
    by_cases y1 : 2 < l.length
    · obtain ⟨b0, y2⟩ : ∃ b, l[0]? = some b := ⟨_, List.getElem?_eq_getElem (by omega)⟩
      obtain ⟨b1, y3⟩ : ∃ b, l[1]? = some b := ⟨_, List.getElem?_eq_getElem (by omega)⟩
      by_cases h48 : b0 = 48
      · have h120 : ¬ b1 = 120 := fun h => hy (by simp [y1, y2, y3, h48, h])
        simp only [go_sem, ↓reduceIte, Nat.reduceEqDiff, Nat.reduceAdd, Nat.reduceMul, Nat.reduceLT, Nat.reduceLeDiff, Int.reduceLT, Int.reduceLE, Int.reduceNeg, Int.reduceAdd, Int.reduceSub, Int.reduceMul, Int.reduceToNat, Int.reduceEq, Int.reduceNe, Int.cast_ofNat_Int, Int.natCast_one, Int.natCast_zero, Int.natCast_add, reduceCtorEq, show (2 : Int) < (l.length : Int) by omega, y2, y3, b48, b120, h48, h120]
        refine LW_run (fun k T σ' => ∃ (i : Nat) (a : Int), i + k = l.length ∧ 0 ≤ i ∧ σ' = σ ∧ T 0 = .string (str l) ∧ T 4 = .int .i64 10 ∧ T 5 = .int .i64 0 ∧ T 6 = .int .i64 a ∧ T 7 = .int .i64 i ∧ 0 ≤ a ∧ a < 4294967296 ∧ denL 10 0 (l.drop 0) = denL 10 a (l.drop i)) (l.length - 0) ⟨0, 0, by omega, Nat.le_refl _, rfl, rfl, rfl, rfl, rfl, rfl, by omega, by omega, rfl⟩ ?_
        rintro k T _ ⟨i, a, hk, hfi, rfl, t0, t4, t5, t6, t7, ha0, ha1, hv⟩
        simp only [go_sem, ↓reduceIte, Nat.reduceEqDiff, Nat.reduceAdd, Nat.reduceMul, Nat.reduceLT, Nat.reduceLeDiff, Int.reduceLT, Int.reduceLE, Int.reduceNeg, Int.reduceAdd, Int.reduceSub, Int.reduceMul, Int.reduceToNat, Int.reduceEq, Int.reduceNe, Int.cast_ofNat_Int, Int.natCast_one, Int.natCast_zero, Int.natCast_add, reduceCtorEq, t0, t4, t5, t6, t7]
        refine fork_dec (fun _ => ?_) (fun _ => ?_)
        · rename_i hi
          obtain ⟨b, hb⟩ : ∃ b, l[i]? = some b := ⟨_, List.getElem?_eq_getElem (by omega)⟩
          have hbb := UInt8.toNat_lt b
          have hx := hexv_le (c := (b.toNat : Int)) (by omega)
          rw [denL_at hb] at hv
          simp only [go_sem, ↓reduceIte, Nat.reduceEqDiff, Nat.reduceAdd, Nat.reduceMul, Nat.reduceLT, Nat.reduceLeDiff, Int.reduceLT, Int.reduceLE, Int.reduceNeg, Int.reduceAdd, Int.reduceSub, Int.reduceMul, Int.reduceToNat, Int.reduceEq, Int.reduceNe, Int.cast_ofNat_Int, Int.natCast_one, Int.natCast_zero, Int.natCast_add, reduceCtorEq, t0, t4, t5, t6, t7, hi, hb]
          refine (f103_ok X _ (by omega) _).mono ?_
          rintro _ _ ⟨rfl, rfl⟩
          generalize hexv (b.toNat : Int) = x at *
          by_cases h1 : x < 0
          · rw [if_pos (.inl h1)] at hv
            simp only [go_sem, ↓reduceIte, Nat.reduceEqDiff, Nat.reduceAdd, Nat.reduceMul, Nat.reduceLT, Nat.reduceLeDiff, Int.reduceLT, Int.reduceLE, Int.reduceNeg, Int.reduceAdd, Int.reduceSub, Int.reduceMul, Int.reduceToNat, Int.reduceEq, Int.reduceNe, Int.cast_ofNat_Int, Int.natCast_one, Int.natCast_zero, Int.natCast_add, reduceCtorEq, t0, t4, t5, t6, t7, h1]
            rw [hden 10 0 hbase hfrom, hv]
          · by_cases h2 : (10 : Int) ≤ x
            · rw [if_pos (.inr h2)] at hv
              simp only [go_sem, ↓reduceIte, Nat.reduceEqDiff, Nat.reduceAdd, Nat.reduceMul, Nat.reduceLT, Nat.reduceLeDiff, Int.reduceLT, Int.reduceLE, Int.reduceNeg, Int.reduceAdd, Int.reduceSub, Int.reduceMul, Int.reduceToNat, Int.reduceEq, Int.reduceNe, Int.cast_ofNat_Int, Int.natCast_one, Int.natCast_zero, Int.natCast_add, reduceCtorEq, t0, t4, t5, t6, t7, h1, h2]
              rw [hden 10 0 hbase hfrom, hv]
            · rw [if_neg (by omega)] at hv
              simp only [go_sem, ↓reduceIte, Nat.reduceEqDiff, Nat.reduceAdd, Nat.reduceMul, Nat.reduceLT, Nat.reduceLeDiff, Int.reduceLT, Int.reduceLE, Int.reduceNeg, Int.reduceAdd, Int.reduceSub, Int.reduceMul, Int.reduceToNat, Int.reduceEq, Int.reduceNe, Int.cast_ofNat_Int, Int.natCast_one, Int.natCast_zero, Int.natCast_add, reduceCtorEq, t0, t4, t5, t6, t7, h1, h2, wrap64 (show -9223372036854775808 ≤ a * 10 ∧ a * 10 ≤ 9223372036854775807 by omega), wrap64 (show -9223372036854775808 ≤ a * 10 + x ∧ a * 10 + x ≤ 9223372036854775807 by omega)]
              refine fork_dec (fun _ => ?_) (fun _ => ?_)
              · rename_i h3
                rw [if_pos h3] at hv
                simp only [go_sem, ↓reduceIte, Nat.reduceEqDiff, Nat.reduceAdd, Nat.reduceMul, Nat.reduceLT, Nat.reduceLeDiff, Int.reduceLT, Int.reduceLE, Int.reduceNeg, Int.reduceAdd, Int.reduceSub, Int.reduceMul, Int.reduceToNat, Int.reduceEq, Int.reduceNe, Int.cast_ofNat_Int, Int.natCast_one, Int.natCast_zero, Int.natCast_add, reduceCtorEq]
                rw [hden 10 0 hbase hfrom, hv]
              · rename_i h3
                rw [if_neg h3] at hv
                simp only [go_sem, ↓reduceIte, Nat.reduceEqDiff, Nat.reduceAdd, Nat.reduceMul, Nat.reduceLT, Nat.reduceLeDiff, Int.reduceLT, Int.reduceLE, Int.reduceNeg, Int.reduceAdd, Int.reduceSub, Int.reduceMul, Int.reduceToNat, Int.reduceEq, Int.reduceNe, Int.cast_ofNat_Int, Int.natCast_one, Int.natCast_zero, Int.natCast_add, reduceCtorEq, t0, t4, t5, t6, t7, wrap64 (show -9223372036854775808 ≤ (i : Int) + 1 ∧ (i : Int) + 1 ≤ 9223372036854775807 by omega)]
                refine ⟨k - 1, by omega, i + 1, a * 10 + x, by omega, by omega, ?_⟩
                (repeat' (first | exact rfl | apply And.intro))
                · omega
                · omega
                · exact hv
        · rename_i hi
          rw [show l.drop i = [] from List.drop_eq_nil_of_le (by omega), denL] at hv
          rw [hden 10 0 hbase hfrom, hv]
          by_cases hF : (0 : Int) < (l.length : Int)
          · obtain ⟨c0, z0⟩ : ∃ b, l[0]? = some b := ⟨_, List.getElem?_eq_getElem (by omega)⟩
            have hF' : 0 < l.length := by omega
            by_cases h1 : l.length = 1
            · simp only [go_sem, ↓reduceIte, Nat.reduceEqDiff, Nat.reduceAdd, Nat.reduceMul, Nat.reduceLT, Nat.reduceLeDiff, Int.reduceLT, Int.reduceLE, Int.reduceNeg, Int.reduceAdd, Int.reduceSub, Int.reduceMul, Int.reduceToNat, Int.reduceEq, Int.reduceNe, Int.cast_ofNat_Int, Int.natCast_one, Int.natCast_zero, Int.natCast_add, reduceCtorEq, t0, t4, t5, t6, t7, hi, hF, hF', show (l.length : Int) = 1 by omega, h1, z0]
              try simp
            · by_cases h48 : c0 = 48
              · simp only [go_sem, ↓reduceIte, Nat.reduceEqDiff, Nat.reduceAdd, Nat.reduceMul, Nat.reduceLT, Nat.reduceLeDiff, Int.reduceLT, Int.reduceLE, Int.reduceNeg, Int.reduceAdd, Int.reduceSub, Int.reduceMul, Int.reduceToNat, Int.reduceEq, Int.reduceNe, Int.cast_ofNat_Int, Int.natCast_one, Int.natCast_zero, Int.natCast_add, reduceCtorEq, t0, t4, t5, t6, t7, hi, hF, hF', show ¬ (l.length : Int) = 1 by omega, h1, z0, h48, show ((48 : UInt8).toNat : Int) = 48 from rfl]
                try simp
              · simp only [go_sem, ↓reduceIte, Nat.reduceEqDiff, Nat.reduceAdd, Nat.reduceMul, Nat.reduceLT, Nat.reduceLeDiff, Int.reduceLT, Int.reduceLE, Int.reduceNeg, Int.reduceAdd, Int.reduceSub, Int.reduceMul, Int.reduceToNat, Int.reduceEq, Int.reduceNe, Int.cast_ofNat_Int, Int.natCast_one, Int.natCast_zero, Int.natCast_add, reduceCtorEq, t0, t4, t5, t6, t7, hi, hF, hF', show ¬ (l.length : Int) = 1 by omega, h1, z0, h48, b48, Option.some.injEq]
                try simp
          · simp only [go_sem, ↓reduceIte, Nat.reduceEqDiff, Nat.reduceAdd, Nat.reduceMul, Nat.reduceLT, Nat.reduceLeDiff, Int.reduceLT, Int.reduceLE, Int.reduceNeg, Int.reduceAdd, Int.reduceSub, Int.reduceMul, Int.reduceToNat, Int.reduceEq, Int.reduceNe, Int.cast_ofNat_Int, Int.natCast_one, Int.natCast_zero, Int.natCast_add, reduceCtorEq, t0, t4, t5, t6, t7, hi, hF, show ¬ 0 < l.length by omega]
      · simp only [go_sem, ↓reduceIte, Nat.reduceEqDiff, Nat.reduceAdd, Nat.reduceMul, Nat.reduceLT, Nat.reduceLeDiff, Int.reduceLT, Int.reduceLE, Int.reduceNeg, Int.reduceAdd, Int.reduceSub, Int.reduceMul, Int.reduceToNat, Int.reduceEq, Int.reduceNe, Int.cast_ofNat_Int, Int.natCast_one, Int.natCast_zero, Int.natCast_add, reduceCtorEq, show (2 : Int) < (l.length : Int) by omega, y2, y3, b48, h48]
        refine LW_run (fun k T σ' => ∃ (i : Nat) (a : Int), i + k = l.length ∧ 0 ≤ i ∧ σ' = σ ∧ T 0 = .string (str l) ∧ T 4 = .int .i64 10 ∧ T 5 = .int .i64 0 ∧ T 6 = .int .i64 a ∧ T 7 = .int .i64 i ∧ 0 ≤ a ∧ a < 4294967296 ∧ denL 10 0 (l.drop 0) = denL 10 a (l.drop i)) (l.length - 0) ⟨0, 0, by omega, Nat.le_refl _, rfl, rfl, rfl, rfl, rfl, rfl, by omega, by omega, rfl⟩ ?_
        rintro k T _ ⟨i, a, hk, hfi, rfl, t0, t4, t5, t6, t7, ha0, ha1, hv⟩
        simp only [go_sem, ↓reduceIte, Nat.reduceEqDiff, Nat.reduceAdd, Nat.reduceMul, Nat.reduceLT, Nat.reduceLeDiff, Int.reduceLT, Int.reduceLE, Int.reduceNeg, Int.reduceAdd, Int.reduceSub, Int.reduceMul, Int.reduceToNat, Int.reduceEq, Int.reduceNe, Int.cast_ofNat_Int, Int.natCast_one, Int.natCast_zero, Int.natCast_add, reduceCtorEq, t0, t4, t5, t6, t7]
        refine fork_dec (fun _ => ?_) (fun _ => ?_)
        · rename_i hi
          obtain ⟨b, hb⟩ : ∃ b, l[i]? = some b := ⟨_, List.getElem?_eq_getElem (by omega)⟩
          have hbb := UInt8.toNat_lt b
          have hx := hexv_le (c := (b.toNat : Int)) (by omega)
          rw [denL_at hb] at hv
          simp only [go_sem, ↓reduceIte, Nat.reduceEqDiff, Nat.reduceAdd, Nat.reduceMul, Nat.reduceLT, Nat.reduceLeDiff, Int.reduceLT, Int.reduceLE, Int.reduceNeg, Int.reduceAdd, Int.reduceSub, Int.reduceMul, Int.reduceToNat, Int.reduceEq, Int.reduceNe, Int.cast_ofNat_Int, Int.natCast_one, Int.natCast_zero, Int.natCast_add, reduceCtorEq, t0, t4, t5, t6, t7, hi, hb]
          refine (f103_ok X _ (by omega) _).mono ?_
          rintro _ _ ⟨rfl, rfl⟩
          generalize hexv (b.toNat : Int) = x at *
          by_cases h1 : x < 0
          · rw [if_pos (.inl h1)] at hv
            simp only [go_sem, ↓reduceIte, Nat.reduceEqDiff, Nat.reduceAdd, Nat.reduceMul, Nat.reduceLT, Nat.reduceLeDiff, Int.reduceLT, Int.reduceLE, Int.reduceNeg, Int.reduceAdd, Int.reduceSub, Int.reduceMul, Int.reduceToNat, Int.reduceEq, Int.reduceNe, Int.cast_ofNat_Int, Int.natCast_one, Int.natCast_zero, Int.natCast_add, reduceCtorEq, t0, t4, t5, t6, t7, h1]
            rw [hden 10 0 hbase hfrom, hv]
          · by_cases h2 : (10 : Int) ≤ x
            · rw [if_pos (.inr h2)] at hv
              simp only [go_sem, ↓reduceIte, Nat.reduceEqDiff, Nat.reduceAdd, Nat.reduceMul, Nat.reduceLT, Nat.reduceLeDiff, Int.reduceLT, Int.reduceLE, Int.reduceNeg, Int.reduceAdd, Int.reduceSub, Int.reduceMul, Int.reduceToNat, Int.reduceEq, Int.reduceNe, Int.cast_ofNat_Int, Int.natCast_one, Int.natCast_zero, Int.natCast_add, reduceCtorEq, t0, t4, t5, t6, t7, h1, h2]
              rw [hden 10 0 hbase hfrom, hv]
            · rw [if_neg (by omega)] at hv
              simp only [go_sem, ↓reduceIte, Nat.reduceEqDiff, Nat.reduceAdd, Nat.reduceMul, Nat.reduceLT, Nat.reduceLeDiff, Int.reduceLT, Int.reduceLE, Int.reduceNeg, Int.reduceAdd, Int.reduceSub, Int.reduceMul, Int.reduceToNat, Int.reduceEq, Int.reduceNe, Int.cast_ofNat_Int, Int.natCast_one, Int.natCast_zero, Int.natCast_add, reduceCtorEq, t0, t4, t5, t6, t7, h1, h2, wrap64 (show -9223372036854775808 ≤ a * 10 ∧ a * 10 ≤ 9223372036854775807 by omega), wrap64 (show -9223372036854775808 ≤ a * 10 + x ∧ a * 10 + x ≤ 9223372036854775807 by omega)]
              refine fork_dec (fun _ => ?_) (fun _ => ?_)
              · rename_i h3
                rw [if_pos h3] at hv
                simp only [go_sem, ↓reduceIte, Nat.reduceEqDiff, Nat.reduceAdd, Nat.reduceMul, Nat.reduceLT, Nat.reduceLeDiff, Int.reduceLT, Int.reduceLE, Int.reduceNeg, Int.reduceAdd, Int.reduceSub, Int.reduceMul, Int.reduceToNat, Int.reduceEq, Int.reduceNe, Int.cast_ofNat_Int, Int.natCast_one, Int.natCast_zero, Int.natCast_add, reduceCtorEq]
                rw [hden 10 0 hbase hfrom, hv]
              · rename_i h3
                rw [if_neg h3] at hv
                simp only [go_sem, ↓reduceIte, Nat.reduceEqDiff, Nat.reduceAdd, Nat.reduceMul, Nat.reduceLT, Nat.reduceLeDiff, Int.reduceLT, Int.reduceLE, Int.reduceNeg, Int.reduceAdd, Int.reduceSub, Int.reduceMul, Int.reduceToNat, Int.reduceEq, Int.reduceNe, Int.cast_ofNat_Int, Int.natCast_one, Int.natCast_zero, Int.natCast_add, reduceCtorEq, t0, t4, t5, t6, t7, wrap64 (show -9223372036854775808 ≤ (i : Int) + 1 ∧ (i : Int) + 1 ≤ 9223372036854775807 by omega)]
                refine ⟨k - 1, by omega, i + 1, a * 10 + x, by omega, by omega, ?_⟩
                (repeat' (first | exact rfl | apply And.intro))
                · omega
                · omega
                · exact hv
        · rename_i hi
          rw [show l.drop i = [] from List.drop_eq_nil_of_le (by omega), denL] at hv
          rw [hden 10 0 hbase hfrom, hv]
          by_cases hF : (0 : Int) < (l.length : Int)
          · obtain ⟨c0, z0⟩ : ∃ b, l[0]? = some b := ⟨_, List.getElem?_eq_getElem (by omega)⟩
            have hF' : 0 < l.length := by omega
            by_cases h1 : l.length = 1
            · simp only [go_sem, ↓reduceIte, Nat.reduceEqDiff, Nat.reduceAdd, Nat.reduceMul, Nat.reduceLT, Nat.reduceLeDiff, Int.reduceLT, Int.reduceLE, Int.reduceNeg, Int.reduceAdd, Int.reduceSub, Int.reduceMul, Int.reduceToNat, Int.reduceEq, Int.reduceNe, Int.cast_ofNat_Int, Int.natCast_one, Int.natCast_zero, Int.natCast_add, reduceCtorEq, t0, t4, t5, t6, t7, hi, hF, hF', show (l.length : Int) = 1 by omega, h1, z0]
              try simp
            · by_cases h48 : c0 = 48
              · simp only [go_sem, ↓reduceIte, Nat.reduceEqDiff, Nat.reduceAdd, Nat.reduceMul, Nat.reduceLT, Nat.reduceLeDiff, Int.reduceLT, Int.reduceLE, Int.reduceNeg, Int.reduceAdd, Int.reduceSub, Int.reduceMul, Int.reduceToNat, Int.reduceEq, Int.reduceNe, Int.cast_ofNat_Int, Int.natCast_one, Int.natCast_zero, Int.natCast_add, reduceCtorEq, t0, t4, t5, t6, t7, hi, hF, hF', show ¬ (l.length : Int) = 1 by omega, h1, z0, h48, show ((48 : UInt8).toNat : Int) = 48 from rfl]
                try simp
              · simp only [go_sem, ↓reduceIte, Nat.reduceEqDiff, Nat.reduceAdd, Nat.reduceMul, Nat.reduceLT, Nat.reduceLeDiff, Int.reduceLT, Int.reduceLE, Int.reduceNeg, Int.reduceAdd, Int.reduceSub, Int.reduceMul, Int.reduceToNat, Int.reduceEq, Int.reduceNe, Int.cast_ofNat_Int, Int.natCast_one, Int.natCast_zero, Int.natCast_add, reduceCtorEq, t0, t4, t5, t6, t7, hi, hF, hF', show ¬ (l.length : Int) = 1 by omega, h1, z0, h48, b48, Option.some.injEq]
                try simp
          · simp only [go_sem, ↓reduceIte, Nat.reduceEqDiff, Nat.reduceAdd, Nat.reduceMul, Nat.reduceLT, Nat.reduceLeDiff, Int.reduceLT, Int.reduceLE, Int.reduceNeg, Int.reduceAdd, Int.reduceSub, Int.reduceMul, Int.reduceToNat, Int.reduceEq, Int.reduceNe, Int.cast_ofNat_Int, Int.natCast_one, Int.natCast_zero, Int.natCast_add, reduceCtorEq, t0, t4, t5, t6, t7, hi, hF, show ¬ 0 < l.length by omega]
    · simp only [go_sem, ↓reduceIte, Nat.reduceEqDiff, Nat.reduceAdd, Nat.reduceMul, Nat.reduceLT, Nat.reduceLeDiff, Int.reduceLT, Int.reduceLE, Int.reduceNeg, Int.reduceAdd, Int.reduceSub, Int.reduceMul, Int.reduceToNat, Int.reduceEq, Int.reduceNe, Int.cast_ofNat_Int, Int.natCast_one, Int.natCast_zero, Int.natCast_add, reduceCtorEq, show ¬ (2 : Int) < (l.length : Int) by omega]
      refine LW_run (fun k T σ' => ∃ (i : Nat) (a : Int), i + k = l.length ∧ 0 ≤ i ∧ σ' = σ ∧ T 0 = .string (str l) ∧ T 4 = .int .i64 10 ∧ T 5 = .int .i64 0 ∧ T 6 = .int .i64 a ∧ T 7 = .int .i64 i ∧ 0 ≤ a ∧ a < 4294967296 ∧ denL 10 0 (l.drop 0) = denL 10 a (l.drop i)) (l.length - 0) ⟨0, 0, by omega, Nat.le_refl _, rfl, rfl, rfl, rfl, rfl, rfl, by omega, by omega, rfl⟩ ?_
      rintro k T _ ⟨i, a, hk, hfi, rfl, t0, t4, t5, t6, t7, ha0, ha1, hv⟩
      simp only [go_sem, ↓reduceIte, Nat.reduceEqDiff, Nat.reduceAdd, Nat.reduceMul, Nat.reduceLT, Nat.reduceLeDiff, Int.reduceLT, Int.reduceLE, Int.reduceNeg, Int.reduceAdd, Int.reduceSub, Int.reduceMul, Int.reduceToNat, Int.reduceEq, Int.reduceNe, Int.cast_ofNat_Int, Int.natCast_one, Int.natCast_zero, Int.natCast_add, reduceCtorEq, t0, t4, t5, t6, t7]
      refine fork_dec (fun _ => ?_) (fun _ => ?_)
      · rename_i hi
        obtain ⟨b, hb⟩ : ∃ b, l[i]? = some b := ⟨_, List.getElem?_eq_getElem (by omega)⟩
        have hbb := UInt8.toNat_lt b
        have hx := hexv_le (c := (b.toNat : Int)) (by omega)
        rw [denL_at hb] at hv
        simp only [go_sem, ↓reduceIte, Nat.reduceEqDiff, Nat.reduceAdd, Nat.reduceMul, Nat.reduceLT, Nat.reduceLeDiff, Int.reduceLT, Int.reduceLE, Int.reduceNeg, Int.reduceAdd, Int.reduceSub, Int.reduceMul, Int.reduceToNat, Int.reduceEq, Int.reduceNe, Int.cast_ofNat_Int, Int.natCast_one, Int.natCast_zero, Int.natCast_add, reduceCtorEq, t0, t4, t5, t6, t7, hi, hb]
        refine (f103_ok X _ (by omega) _).mono ?_
        rintro _ _ ⟨rfl, rfl⟩
        generalize hexv (b.toNat : Int) = x at *
        by_cases h1 : x < 0
        · rw [if_pos (.inl h1)] at hv
          simp only [go_sem, ↓reduceIte, Nat.reduceEqDiff, Nat.reduceAdd, Nat.reduceMul, Nat.reduceLT, Nat.reduceLeDiff, Int.reduceLT, Int.reduceLE, Int.reduceNeg, Int.reduceAdd, Int.reduceSub, Int.reduceMul, Int.reduceToNat, Int.reduceEq, Int.reduceNe, Int.cast_ofNat_Int, Int.natCast_one, Int.natCast_zero, Int.natCast_add, reduceCtorEq, t0, t4, t5, t6, t7, h1]
          rw [hden 10 0 hbase hfrom, hv]
        · by_cases h2 : (10 : Int) ≤ x
          · rw [if_pos (.inr h2)] at hv
            simp only [go_sem, ↓reduceIte, Nat.reduceEqDiff, Nat.reduceAdd, Nat.reduceMul, Nat.reduceLT, Nat.reduceLeDiff, Int.reduceLT, Int.reduceLE, Int.reduceNeg, Int.reduceAdd, Int.reduceSub, Int.reduceMul, Int.reduceToNat, Int.reduceEq, Int.reduceNe, Int.cast_ofNat_Int, Int.natCast_one, Int.natCast_zero, Int.natCast_add, reduceCtorEq, t0, t4, t5, t6, t7, h1, h2]
            rw [hden 10 0 hbase hfrom, hv]
          · rw [if_neg (by omega)] at hv
            simp only [go_sem, ↓reduceIte, Nat.reduceEqDiff, Nat.reduceAdd, Nat.reduceMul, Nat.reduceLT, Nat.reduceLeDiff, Int.reduceLT, Int.reduceLE, Int.reduceNeg, Int.reduceAdd, Int.reduceSub, Int.reduceMul, Int.reduceToNat, Int.reduceEq, Int.reduceNe, Int.cast_ofNat_Int, Int.natCast_one, Int.natCast_zero, Int.natCast_add, reduceCtorEq, t0, t4, t5, t6, t7, h1, h2, wrap64 (show -9223372036854775808 ≤ a * 10 ∧ a * 10 ≤ 9223372036854775807 by omega), wrap64 (show -9223372036854775808 ≤ a * 10 + x ∧ a * 10 + x ≤ 9223372036854775807 by omega)]
            refine fork_dec (fun _ => ?_) (fun _ => ?_)
            · rename_i h3
              rw [if_pos h3] at hv
              simp only [go_sem, ↓reduceIte, Nat.reduceEqDiff, Nat.reduceAdd, Nat.reduceMul, Nat.reduceLT, Nat.reduceLeDiff, Int.reduceLT, Int.reduceLE, Int.reduceNeg, Int.reduceAdd, Int.reduceSub, Int.reduceMul, Int.reduceToNat, Int.reduceEq, Int.reduceNe, Int.cast_ofNat_Int, Int.natCast_one, Int.natCast_zero, Int.natCast_add, reduceCtorEq]
              rw [hden 10 0 hbase hfrom, hv]
            · rename_i h3
              rw [if_neg h3] at hv
              simp only [go_sem, ↓reduceIte, Nat.reduceEqDiff, Nat.reduceAdd, Nat.reduceMul, Nat.reduceLT, Nat.reduceLeDiff, Int.reduceLT, Int.reduceLE, Int.reduceNeg, Int.reduceAdd, Int.reduceSub, Int.reduceMul, Int.reduceToNat, Int.reduceEq, Int.reduceNe, Int.cast_ofNat_Int, Int.natCast_one, Int.natCast_zero, Int.natCast_add, reduceCtorEq, t0, t4, t5, t6, t7, wrap64 (show -9223372036854775808 ≤ (i : Int) + 1 ∧ (i : Int) + 1 ≤ 9223372036854775807 by omega)]
              refine ⟨k - 1, by omega, i + 1, a * 10 + x, by omega, by omega, ?_⟩
              (repeat' (first | exact rfl | apply And.intro))
              · omega
              · omega
              · exact hv
      · rename_i hi
        rw [show l.drop i = [] from List.drop_eq_nil_of_le (by omega), denL] at hv
        rw [hden 10 0 hbase hfrom, hv]
        by_cases hF : (0 : Int) < (l.length : Int)
        · obtain ⟨c0, z0⟩ : ∃ b, l[0]? = some b := ⟨_, List.getElem?_eq_getElem (by omega)⟩
          have hF' : 0 < l.length := by omega
          by_cases h1 : l.length = 1
          · simp only [go_sem, ↓reduceIte, Nat.reduceEqDiff, Nat.reduceAdd, Nat.reduceMul, Nat.reduceLT, Nat.reduceLeDiff, Int.reduceLT, Int.reduceLE, Int.reduceNeg, Int.reduceAdd, Int.reduceSub, Int.reduceMul, Int.reduceToNat, Int.reduceEq, Int.reduceNe, Int.cast_ofNat_Int, Int.natCast_one, Int.natCast_zero, Int.natCast_add, reduceCtorEq, t0, t4, t5, t6, t7, hi, hF, hF', show (l.length : Int) = 1 by omega, h1, z0]
            try simp
          · by_cases h48 : c0 = 48
            · simp only [go_sem, ↓reduceIte, Nat.reduceEqDiff, Nat.reduceAdd, Nat.reduceMul, Nat.reduceLT, Nat.reduceLeDiff, Int.reduceLT, Int.reduceLE, Int.reduceNeg, Int.reduceAdd, Int.reduceSub, Int.reduceMul, Int.reduceToNat, Int.reduceEq, Int.reduceNe, Int.cast_ofNat_Int, Int.natCast_one, Int.natCast_zero, Int.natCast_add, reduceCtorEq, t0, t4, t5, t6, t7, hi, hF, hF', show ¬ (l.length : Int) = 1 by omega, h1, z0, h48, show ((48 : UInt8).toNat : Int) = 48 from rfl]
              try simp
            · simp only [go_sem, ↓reduceIte, Nat.reduceEqDiff, Nat.reduceAdd, Nat.reduceMul, Nat.reduceLT, Nat.reduceLeDiff, Int.reduceLT, Int.reduceLE, Int.reduceNeg, Int.reduceAdd, Int.reduceSub, Int.reduceMul, Int.reduceToNat, Int.reduceEq, Int.reduceNe, Int.cast_ofNat_Int, Int.natCast_one, Int.natCast_zero, Int.natCast_add, reduceCtorEq, t0, t4, t5, t6, t7, hi, hF, hF', show ¬ (l.length : Int) = 1 by omega, h1, z0, h48, b48, Option.some.injEq]
              try simp
        · simp only [go_sem, ↓reduceIte, Nat.reduceEqDiff, Nat.reduceAdd, Nat.reduceMul, Nat.reduceLT, Nat.reduceLeDiff, Int.reduceLT, Int.reduceLE, Int.reduceNeg, Int.reduceAdd, Int.reduceSub, Int.reduceMul, Int.reduceToNat, Int.reduceEq, Int.reduceNe, Int.cast_ofNat_Int, Int.natCast_one, Int.natCast_zero, Int.natCast_add, reduceCtorEq, t0, t4, t5, t6, t7, hi, hF, show ¬ 0 < l.length by omega]
end Go.Proofs.YtkgdkommahgakaaDoor.Abs
