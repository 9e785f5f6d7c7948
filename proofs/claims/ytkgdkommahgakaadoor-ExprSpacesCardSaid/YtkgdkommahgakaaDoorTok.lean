import Derived.Test.YtkgdkommahgakaaDoorLibr
namespace Go.Proofs.YtkgdkommahgakaaDoor.Abs
open Go Go.RowKit
set_option linter.unusedVariables false
set_option linter.unusedSimpArgs false
set_option maxRecDepth 100000

/-! ### tokens: the plain law -/
structure Tk where
  kind : Int
  text : List UInt8
  value : Int
  at_ : Int
deriving DecidableEq
def Tk.cells (x : Tk) : List Value := [.int .i64 x.kind, .string (str x.text), .int .i64 x.value, .int .i64 x.at_]
def validT (x : Tk) : Bool :=
  if x.kind = 1 then nameOk x.text && decide (x.value = 0)
  else if x.kind = 2 then decide (x.text = []) && (decide (0 ≤ x.value) && decide (x.value < 4294967296))
  else if x.kind = 3 then decide (x.text ∈ signs) && decide (x.value = 0)
  else false
def tokOf (l : List UInt8) : Tk × Bool :=
  if l ∈ signs then (⟨3, l, 0, 0⟩, true) else if (den l).2 = true then (⟨2, [], (den l).1, 0⟩, true) else if nameOk l = true then (⟨1, l, 0, 0⟩, true) else (⟨0, [], 0, 0⟩, false)
def textOf (x : Tk) : List UInt8 := if x.kind = 2 then num x.value else x.text
def isTok (x : Tk) : Bool :=
  if x.kind = 2 ∧ ¬ (0 ≤ x.value ∧ x.value ≤ 4294967295) then false
  else (tokOf (textOf x)).2 && (decide ((tokOf (textOf x)).1.kind = x.kind) && (decide ((tokOf (textOf x)).1.text = x.text) && decide ((tokOf (textOf x)).1.value = x.value)))

theorem signs_single : ∀ l ∈ signs, l.length = 1 ∨ l.length = 2 := by decide
theorem signAt_iff (l : List UInt8) : (l ≠ [] ∧ signAt l = l) ↔ l ∈ signs := by
  constructor
  · rintro ⟨hne, h⟩
    unfold signAt at h
    split at h
    · rename_i hc
      obtain ⟨h2, h3⟩ := hc
      rw [← h]
      rcases h3 with h3 | h3 <;> rw [h3] <;> decide
    · split at h
      · rename_i hc
        obtain ⟨b, hb, hm⟩ := hc
        cases l with
        | nil => simp at hb
        | cons c r =>
          simp only [List.head?_cons, Option.some.injEq] at hb
          subst hb
          simp only [List.take_succ_cons, List.take_zero, List.cons.injEq, true_and] at h
          subst h
          have : ∀ c ∈ single, [c] ∈ signs := by decide
          exact this c hm
      · exact absurd h.symm hne
  · intro h
    have : ∀ l ∈ signs, l ≠ [] ∧ signAt l = l := by
      intro l hl
      have h1 : ∀ l ∈ signs, l ≠ [] := by decide
      refine ⟨h1 l hl, ?_⟩
      unfold signAt
      by_cases hc : 2 ≤ l.length ∧ (l.take 2 = [60, 60] ∨ l.take 2 = [62, 62])
      · rw [if_pos hc]
        have := signs_single l hl
        exact List.take_of_length_le (by omega)
      · rw [if_neg hc]
        have h2 : ∀ l ∈ signs, ¬ (2 ≤ l.length ∧ (l.take 2 = [60, 60] ∨ l.take 2 = [62, 62])) → (l.head?.any fun b => decide (b ∈ single)) = true ∧ l.length = 1 := by decide
        obtain ⟨h3, h4⟩ := h2 l hl hc
        rw [if_pos, List.take_of_length_le (by omega)]
        cases l with
        | nil => simp at h4
        | cons c r => exact ⟨c, rfl, by simpa using h3⟩
    exact this l h
theorem sign_name {l : List UInt8} (h : l ∈ signs) : nameOk l = false := by
  have : ∀ l ∈ signs, nameOk l = false := by decide
  exact this l h
theorem dig_hex {b : UInt8} : digB b = true ↔ 0 ≤ hexv b.toNat ∧ hexv b.toNat < 10 := by
  have := UInt8.toNat_lt b
  unfold digB dig hexv
  simp only [decide_eq_true_eq]
  constructor
  · intro h
    rw [if_pos h]
    omega
  · intro h
    split at h
    · assumption
    · split at h
      · omega
      · split at h <;> omega
/-- A name is no number. -/
theorem name_den {l : List UInt8} (h : nameOk l = true) : (den l).2 = false := by
  cases l with
  | nil => simp [nameOk] at h
  | cons b r =>
    simp only [nameOk, List.head?_cons, Option.any_some, Bool.and_eq_true, Bool.not_eq_true'] at h
    have hd := h.2.2.2
    have h48 : b ≠ 48 := by
      rintro rfl
      revert hd
      decide
    have hy : hexy (b :: r) = false := by
      unfold hexy
      simp [h48]
    have e1 : denB (b :: r) = 10 := by rw [denB, hy]; rfl
    have e2 : denF (b :: r) = 0 := by rw [denF, hy]; rfl
    unfold den
    rw [e1, e2]
    simp only [List.drop_zero, denL]
    have hb := UInt8.toNat_lt b
    have hx := hexv_le (c := (b.toNat : Int)) (by omega)
    rw [if_pos]
    have : ¬ digB b = true := by rw [hd]; simp
    rw [dig_hex] at this
    omega
theorem denL_append (base : Int) : ∀ (l m : List UInt8) (a : Int), denL base a (l ++ m) = (denL base a l).bind fun n => denL base n m
  | [], m, a => rfl
  | b :: l, m, a => by
    rw [List.cons_append, denL, denL]
    split
    · rfl
    · split
      · rfl
      · exact denL_append base l m _
theorem hexv_dec (n : Nat) (h : n < 10) : hexv ((UInt8.ofNat (48 + n)).toNat : Int) = n := by
  have : ∀ n : Fin 10, hexv ((UInt8.ofNat (48 + n.val)).toNat : Int) = n.val := by decide
  exact this ⟨n, h⟩
theorem denL_dec : ∀ (n : Nat), n < 4294967296 → denL 10 0 (dec n) = some (n : Int) := by
  intro n
  induction n using Nat.strongRecOn with
  | _ n ih =>
    intro hn
    unfold dec
    split
    · rename_i h
      simp only [denL, hexv_dec n h]
      rw [if_neg (by omega), if_neg (by omega)]
      simp
    · rename_i h
      rw [denL_append, ih (n / 10) (by omega) (by omega)]
      simp only [Option.bind_some, denL, hexv_dec (n % 10) (Nat.mod_lt _ (by omega))]
      rw [if_neg (by omega), if_neg (by omega)]
      congr 1
      omega
theorem dec_ne (n : Nat) : dec n ≠ [] := by
  unfold dec
  split <;> simp
theorem dec_digs : ∀ (n : Nat), ∀ b ∈ dec n, digB b = true := by
  intro n
  induction n using Nat.strongRecOn with
  | _ n ih =>
    intro b hb
    have one : ∀ m, m < 10 → digB (UInt8.ofNat (48 + m)) = true := fun m hm => by
      rw [dig_hex, hexv_dec m hm]; omega
    unfold dec at hb
    split at hb
    · rename_i h
      rw [List.mem_singleton] at hb
      rw [hb]
      exact one n h
    · rename_i h
      rcases List.mem_append.1 hb with hb | hb
      · exact ih (n / 10) (by omega) b hb
      · rw [List.mem_singleton] at hb
        rw [hb]
        exact one (n % 10) (by omega)
theorem dec_head : ∀ (n : Nat), 1 ≤ n → (dec n)[0]? ≠ some 48 := by
  intro n
  induction n using Nat.strongRecOn with
  | _ n ih =>
    intro hn
    unfold dec
    split
    · rename_i h
      have : ∀ n : Fin 10, 1 ≤ n.val → ([UInt8.ofNat (48 + n.val)] : List UInt8)[0]? ≠ some 48 := by decide
      exact this ⟨n, h⟩ hn
    · rename_i h
      have := dec_ne (n / 10)
      rw [List.getElem?_append_left (by cases hd : dec (n / 10) with | nil => exact absurd hd this | cons => simp)]
      exact ih (n / 10) (by omega) (by omega)
/-- A number's decimal digits denote it. -/
theorem den_dec {n : Nat} (hn : n < 4294967296) : den (dec n) = ((n : Int), true) := by
  have hy : hexy (dec n) = false := by
    unfold hexy
    cases h1 : (dec n)[1]? with
    | none => simp
    | some b =>
      have := dec_digs n b (List.mem_of_getElem? h1)
      have h120 : b ≠ 120 := by
        rintro rfl
        revert this
        decide
      simp [h120]
  have e1 : denB (dec n) = 10 := by rw [denB, hy]; rfl
  have e2 : denF (dec n) = 0 := by rw [denF, hy]; rfl
  unfold den
  rw [e1, e2, List.drop_zero, denL_dec n hn]
  simp only
  have hpos : 0 < (dec n).length := by
    cases hd : dec n with
    | nil => exact absurd hd (dec_ne n)
    | cons => simp
  rw [decide_eq_true hpos]
  by_cases h0 : n = 0
  · subst h0
    have : dec 0 = [48] := by rw [dec]; rfl
    rw [this]
    rfl
  · have := dec_head n (by omega)
    simp [this]
theorem dec_sign (n : Nat) : dec n ∉ signs := by
  intro h
  have h1 : ∀ l ∈ signs, (l.all digB) = false := by decide
  have := h1 _ h
  rw [List.all_eq_false] at this
  obtain ⟨b, hb, hd⟩ := this
  exact hd (dec_digs n b hb)
/-- **Both say the same of a token.** -/
theorem isTok_eq (x : Tk) : isTok x = validT x := by
  unfold isTok validT
  by_cases h2 : x.kind = 2
  · rw [if_neg (show ¬ x.kind = 1 by omega), if_pos h2]
    by_cases hv : 0 ≤ x.value ∧ x.value ≤ 4294967295
    · rw [if_neg (by simp [hv])]
      obtain ⟨m, hm⟩ : ∃ m : Nat, x.value = m := ⟨x.value.toNat, by omega⟩
      have e : textOf x = dec m := by
        rw [textOf, if_pos h2, num, if_neg (by omega), hm]
        rfl
      rw [e, tokOf, if_neg (dec_sign m), den_dec (by omega)]
      simp only [if_true, h2, hm, decide_true, Bool.true_and]
      rw [decide_eq_true (show 0 ≤ (m : Int) by omega), decide_eq_true (show (m : Int) < 4294967296 by omega)]
      simp only [Bool.and_true]
      exact decide_eq_decide.2 ⟨fun h => h.symm, fun h => h.symm⟩
    · rw [if_pos ⟨h2, hv⟩]
      symm
      by_cases h0 : 0 ≤ x.value
      · rw [decide_eq_false (show ¬ x.value < 4294967296 by omega)]
        simp
      · rw [decide_eq_false h0]
        simp
  · rw [if_neg (by simp [h2])]
    have e : textOf x = x.text := by rw [textOf, if_neg h2]
    rw [e, if_neg (show ¬ x.kind = 2 from h2)]
    unfold tokOf
    by_cases hs : x.text ∈ signs
    · rw [if_pos hs]
      simp only [Bool.true_and, decide_true]
      by_cases h1 : x.kind = 1
      · rw [if_pos h1, sign_name hs]
        simp [h1]
      · rw [if_neg h1]
        by_cases h3 : x.kind = 3
        · rw [if_pos h3, decide_eq_true hs, h3]
          simp [eq_comm]
        · rw [if_neg h3]
          simp [Ne.symm h3]
    · rw [if_neg hs]
      by_cases hd : (den x.text).2 = true
      · rw [if_pos hd]
        simp only [Bool.true_and]
        rw [decide_eq_false (show ¬ (2 : Int) = x.kind from fun h => h2 h.symm)]
        simp only [Bool.false_and]
        by_cases h1 : x.kind = 1
        · rw [if_pos h1]
          cases hn : nameOk x.text with
          | false => rfl
          | true => rw [name_den hn] at hd; simp at hd
        · rw [if_neg h1, decide_eq_false hs]
          simp
      · rw [if_neg hd]
        by_cases hn : nameOk x.text = true
        · rw [if_pos hn, hn]
          simp only [Bool.true_and, decide_true]
          by_cases h1 : x.kind = 1
          · rw [if_pos h1, h1]
            simp [eq_comm]
          · rw [if_neg h1, decide_eq_false hs, decide_eq_false (show ¬ (1 : Int) = x.kind from fun h => h1 h.symm)]
            simp
        · rw [if_neg hn]
          have hn' : nameOk x.text = false := by simpa using hn
          rw [hn', decide_eq_false hs]
          simp

/-! ### tokens: the walks -/
set_option maxHeartbeats 1000000 in
theorem f46_ok (x : Tk) (hs : x.text.length ≤ 140737488351232) (σ : Heap) : CW Tryd.prog XL 46 [.agg x.cells.toArray] σ fun v σ' => v = .bool (validT x) ∧ σ <+: σ' := by
  refine cw_in Tryd.func46 rfl Tryd.ntmps46 (rs := [.tmp 2]) rfl (by kernel_rfl) (by exact Nat.le_of_ble_eq_true rfl) ?_
  unfold validT
  by_cases h1 : x.kind = 1
  · simp only [go_sem, ↓reduceIte, Nat.reduceEqDiff, Nat.reduceAdd, Nat.reduceMul, Nat.reduceLT, Nat.reduceLeDiff, Int.reduceLT, Int.reduceLE, Int.reduceNeg, Int.reduceAdd, Int.reduceSub, Int.reduceMul, Int.reduceToNat, Int.reduceEq, Int.reduceNe, Int.cast_ofNat_Int, Int.natCast_one, Int.natCast_zero, Int.natCast_add, reduceCtorEq, Tk.cells, h1]
    refine (f55_ok _ x.text hs _).mono ?_
    rintro _ _ ⟨rfl, rfl⟩
    cases hn : nameOk x.text <;> simp only [go_sem, ↓reduceIte, Nat.reduceEqDiff, Nat.reduceAdd, Nat.reduceMul, Nat.reduceLT, Nat.reduceLeDiff, Int.reduceLT, Int.reduceLE, Int.reduceNeg, Int.reduceAdd, Int.reduceSub, Int.reduceMul, Int.reduceToNat, Int.reduceEq, Int.reduceNe, Int.cast_ofNat_Int, Int.natCast_one, Int.natCast_zero, Int.natCast_add, reduceCtorEq, hn] <;> exact List.prefix_append _ _
  · by_cases h2 : x.kind = 2
    · simp only [go_sem, ↓reduceIte, Nat.reduceEqDiff, Nat.reduceAdd, Nat.reduceMul, Nat.reduceLT, Nat.reduceLeDiff, Int.reduceLT, Int.reduceLE, Int.reduceNeg, Int.reduceAdd, Int.reduceSub, Int.reduceMul, Int.reduceToNat, Int.reduceEq, Int.reduceNe, Int.cast_ofNat_Int, Int.natCast_one, Int.natCast_zero, Int.natCast_add, reduceCtorEq, Tk.cells, h1, h2]
      by_cases h3 : x.text = []
      · simp only [go_sem, ↓reduceIte, Nat.reduceEqDiff, Nat.reduceAdd, Nat.reduceMul, Nat.reduceLT, Nat.reduceLeDiff, Int.reduceLT, Int.reduceLE, Int.reduceNeg, Int.reduceAdd, Int.reduceSub, Int.reduceMul, Int.reduceToNat, Int.reduceEq, Int.reduceNe, Int.cast_ofNat_Int, Int.natCast_one, Int.natCast_zero, Int.natCast_add, reduceCtorEq, h3]
        by_cases h4 : 0 ≤ x.value
        · simp only [go_sem, ↓reduceIte, Nat.reduceEqDiff, Nat.reduceAdd, Nat.reduceMul, Nat.reduceLT, Nat.reduceLeDiff, Int.reduceLT, Int.reduceLE, Int.reduceNeg, Int.reduceAdd, Int.reduceSub, Int.reduceMul, Int.reduceToNat, Int.reduceEq, Int.reduceNe, Int.cast_ofNat_Int, Int.natCast_one, Int.natCast_zero, Int.natCast_add, reduceCtorEq, h3, h4]
          exact List.prefix_append _ _
        · simp only [go_sem, ↓reduceIte, Nat.reduceEqDiff, Nat.reduceAdd, Nat.reduceMul, Nat.reduceLT, Nat.reduceLeDiff, Int.reduceLT, Int.reduceLE, Int.reduceNeg, Int.reduceAdd, Int.reduceSub, Int.reduceMul, Int.reduceToNat, Int.reduceEq, Int.reduceNe, Int.cast_ofNat_Int, Int.natCast_one, Int.natCast_zero, Int.natCast_add, reduceCtorEq, h3, h4]
          exact List.prefix_append _ _
      · simp only [go_sem, ↓reduceIte, Nat.reduceEqDiff, Nat.reduceAdd, Nat.reduceMul, Nat.reduceLT, Nat.reduceLeDiff, Int.reduceLT, Int.reduceLE, Int.reduceNeg, Int.reduceAdd, Int.reduceSub, Int.reduceMul, Int.reduceToNat, Int.reduceEq, Int.reduceNe, Int.cast_ofNat_Int, Int.natCast_one, Int.natCast_zero, Int.natCast_add, reduceCtorEq, h3]
        exact List.prefix_append _ _
    · by_cases h3 : x.kind = 3
      · simp only [go_sem, ↓reduceIte, Nat.reduceEqDiff, Nat.reduceAdd, Nat.reduceMul, Nat.reduceLT, Nat.reduceLeDiff, Int.reduceLT, Int.reduceLE, Int.reduceNeg, Int.reduceAdd, Int.reduceSub, Int.reduceMul, Int.reduceToNat, Int.reduceEq, Int.reduceNe, Int.cast_ofNat_Int, Int.natCast_one, Int.natCast_zero, Int.natCast_add, reduceCtorEq, Tk.cells, h1, h2, h3]
        have hsg := signAt_iff x.text
        by_cases h4 : x.text = []
        · simp only [go_sem, ↓reduceIte, Nat.reduceEqDiff, Nat.reduceAdd, Nat.reduceMul, Nat.reduceLT, Nat.reduceLeDiff, Int.reduceLT, Int.reduceLE, Int.reduceNeg, Int.reduceAdd, Int.reduceSub, Int.reduceMul, Int.reduceToNat, Int.reduceEq, Int.reduceNe, Int.cast_ofNat_Int, Int.natCast_one, Int.natCast_zero, Int.natCast_add, reduceCtorEq, h4, show ¬ ([] : List UInt8) ∈ signs by decide]
          exact List.prefix_append _ _
        · simp only [go_sem, ↓reduceIte, Nat.reduceEqDiff, Nat.reduceAdd, Nat.reduceMul, Nat.reduceLT, Nat.reduceLeDiff, Int.reduceLT, Int.reduceLE, Int.reduceNeg, Int.reduceAdd, Int.reduceSub, Int.reduceMul, Int.reduceToNat, Int.reduceEq, Int.reduceNe, Int.cast_ofNat_Int, Int.natCast_one, Int.natCast_zero, Int.natCast_add, reduceCtorEq, h4]
          refine (f69_ok x.text hs _).mono ?_
          rintro _ _ ⟨rfl, rfl⟩
          by_cases h5 : signAt x.text = x.text
          · simp only [go_sem, ↓reduceIte, Nat.reduceEqDiff, Nat.reduceAdd, Nat.reduceMul, Nat.reduceLT, Nat.reduceLeDiff, Int.reduceLT, Int.reduceLE, Int.reduceNeg, Int.reduceAdd, Int.reduceSub, Int.reduceMul, Int.reduceToNat, Int.reduceEq, Int.reduceNe, Int.cast_ofNat_Int, Int.natCast_one, Int.natCast_zero, Int.natCast_add, reduceCtorEq, h4, h5, hsg.1 ⟨h4, h5⟩]
            exact List.prefix_append _ _
          · simp only [go_sem, ↓reduceIte, Nat.reduceEqDiff, Nat.reduceAdd, Nat.reduceMul, Nat.reduceLT, Nat.reduceLeDiff, Int.reduceLT, Int.reduceLE, Int.reduceNeg, Int.reduceAdd, Int.reduceSub, Int.reduceMul, Int.reduceToNat, Int.reduceEq, Int.reduceNe, Int.cast_ofNat_Int, Int.natCast_one, Int.natCast_zero, Int.natCast_add, reduceCtorEq, h4, h5, show ¬ x.text ∈ signs from fun h => h5 (hsg.2 h).2]
            exact List.prefix_append _ _
      · simp only [go_sem, ↓reduceIte, Nat.reduceEqDiff, Nat.reduceAdd, Nat.reduceMul, Nat.reduceLT, Nat.reduceLeDiff, Int.reduceLT, Int.reduceLE, Int.reduceNeg, Int.reduceAdd, Int.reduceSub, Int.reduceMul, Int.reduceToNat, Int.reduceEq, Int.reduceNe, Int.cast_ofNat_Int, Int.natCast_one, Int.natCast_zero, Int.natCast_add, reduceCtorEq, Tk.cells, h1, h2, h3]
        exact List.prefix_append _ _
set_option maxHeartbeats 1000000 in
theorem f48_ok (X : Ext) (l : List UInt8) (hs : l.length ≤ 140737488351232) (σ : Heap) : CW Tryd.prog X 48 [.string (str l)] σ fun v σ' => v = .tuple #[.agg (tokOf l).1.cells.toArray, .bool (tokOf l).2] ∧ σ <+: σ' := by
  refine cw_in Tryd.func48 rfl Tryd.ntmps48 (rs := [.cell 2 31, .tmp 3]) rfl (by kernel_rfl) (by exact Nat.le_of_ble_eq_true rfl) ?_
  unfold tokOf
  simp only [go_sem, ↓reduceIte, Nat.reduceEqDiff, Nat.reduceAdd, Nat.reduceMul, Nat.reduceLT, Nat.reduceLeDiff, Int.reduceLT, Int.reduceLE, Int.reduceNeg, Int.reduceAdd, Int.reduceSub, Int.reduceMul, Int.reduceToNat, Int.reduceEq, Int.reduceNe, Int.cast_ofNat_Int, Int.natCast_one, Int.natCast_zero, Int.natCast_add, reduceCtorEq]
  refine (f75_ok X l _).mono ?_
  rintro _ _ ⟨rfl, τ, rfl⟩
  simp only [go_sem, ↓reduceIte, Nat.reduceEqDiff, Nat.reduceAdd, Nat.reduceMul, Nat.reduceLT, Nat.reduceLeDiff, Int.reduceLT, Int.reduceLE, Int.reduceNeg, Int.reduceAdd, Int.reduceSub, Int.reduceMul, Int.reduceToNat, Int.reduceEq, Int.reduceNe, Int.cast_ofNat_Int, Int.natCast_one, Int.natCast_zero, Int.natCast_add, reduceCtorEq]
  refine fork_dec (fun _ => ?_) (fun _ => ?_)
  · rename_i h
    simp only [go_sem, ↓reduceIte, Nat.reduceEqDiff, Nat.reduceAdd, Nat.reduceMul, Nat.reduceLT, Nat.reduceLeDiff, Int.reduceLT, Int.reduceLE, Int.reduceNeg, Int.reduceAdd, Int.reduceSub, Int.reduceMul, Int.reduceToNat, Int.reduceEq, Int.reduceNe, Int.cast_ofNat_Int, Int.natCast_one, Int.natCast_zero, Int.natCast_add, reduceCtorEq, h, Tk.cells]
    exact List.prefix_append _ _
  · rename_i h
    simp only [go_sem, ↓reduceIte, Nat.reduceEqDiff, Nat.reduceAdd, Nat.reduceMul, Nat.reduceLT, Nat.reduceLeDiff, Int.reduceLT, Int.reduceLE, Int.reduceNeg, Int.reduceAdd, Int.reduceSub, Int.reduceMul, Int.reduceToNat, Int.reduceEq, Int.reduceNe, Int.cast_ofNat_Int, Int.natCast_one, Int.natCast_zero, Int.natCast_add, reduceCtorEq, h]
    refine (f76_ok X l hs _).mono ?_
    rintro _ _ ⟨rfl, rfl⟩
    simp only [go_sem, ↓reduceIte, Nat.reduceEqDiff, Nat.reduceAdd, Nat.reduceMul, Nat.reduceLT, Nat.reduceLeDiff, Int.reduceLT, Int.reduceLE, Int.reduceNeg, Int.reduceAdd, Int.reduceSub, Int.reduceMul, Int.reduceToNat, Int.reduceEq, Int.reduceNe, Int.cast_ofNat_Int, Int.natCast_one, Int.natCast_zero, Int.natCast_add, reduceCtorEq]
    cases hd : (den l).2 with
    | true =>
      simp only [go_sem, ↓reduceIte, Nat.reduceEqDiff, Nat.reduceAdd, Nat.reduceMul, Nat.reduceLT, Nat.reduceLeDiff, Int.reduceLT, Int.reduceLE, Int.reduceNeg, Int.reduceAdd, Int.reduceSub, Int.reduceMul, Int.reduceToNat, Int.reduceEq, Int.reduceNe, Int.cast_ofNat_Int, Int.natCast_one, Int.natCast_zero, Int.natCast_add, reduceCtorEq, Tk.cells]
      exact List.prefix_append _ _
    | false =>
      simp only [go_sem, ↓reduceIte, Nat.reduceEqDiff, Nat.reduceAdd, Nat.reduceMul, Nat.reduceLT, Nat.reduceLeDiff, Int.reduceLT, Int.reduceLE, Int.reduceNeg, Int.reduceAdd, Int.reduceSub, Int.reduceMul, Int.reduceToNat, Int.reduceEq, Int.reduceNe, Int.cast_ofNat_Int, Int.natCast_one, Int.natCast_zero, Int.natCast_add, reduceCtorEq]
      refine (f54_ok X l hs _).mono ?_
      rintro _ _ ⟨rfl, rfl⟩
      cases hn : nameOk l <;> simp only [go_sem, ↓reduceIte, Nat.reduceEqDiff, Nat.reduceAdd, Nat.reduceMul, Nat.reduceLT, Nat.reduceLeDiff, Int.reduceLT, Int.reduceLE, Int.reduceNeg, Int.reduceAdd, Int.reduceSub, Int.reduceMul, Int.reduceToNat, Int.reduceEq, Int.reduceNe, Int.cast_ofNat_Int, Int.natCast_one, Int.natCast_zero, Int.natCast_add, reduceCtorEq, hn, Tk.cells] <;> exact List.prefix_append _ _
set_option maxHeartbeats 1000000 in
theorem f49_ok (X : Ext) (x : Tk) (hv : -9223372036854775808 ≤ x.value ∧ x.value ≤ 9223372036854775807) (σ : Heap) : CW Tryd.prog X 49 [.agg x.cells.toArray] σ fun v σ' => v = .string (str (textOf x)) ∧ σ <+: σ' := by
  refine cw_in Tryd.func49 rfl Tryd.ntmps49 (rs := [.tmp 2]) rfl (by kernel_rfl) (by exact Nat.le_of_ble_eq_true rfl) ?_
  unfold textOf
  by_cases h2 : x.kind = 2
  · simp only [go_sem, ↓reduceIte, Nat.reduceEqDiff, Nat.reduceAdd, Nat.reduceMul, Nat.reduceLT, Nat.reduceLeDiff, Int.reduceLT, Int.reduceLE, Int.reduceNeg, Int.reduceAdd, Int.reduceSub, Int.reduceMul, Int.reduceToNat, Int.reduceEq, Int.reduceNe, Int.cast_ofNat_Int, Int.natCast_one, Int.natCast_zero, Int.natCast_add, reduceCtorEq, Tk.cells, h2]
    refine (f77_ok X x.value hv _).mono ?_
    rintro _ _ ⟨rfl, rfl⟩
    simp only [go_sem, ↓reduceIte, Nat.reduceEqDiff, Nat.reduceAdd, Nat.reduceMul, Nat.reduceLT, Nat.reduceLeDiff, Int.reduceLT, Int.reduceLE, Int.reduceNeg, Int.reduceAdd, Int.reduceSub, Int.reduceMul, Int.reduceToNat, Int.reduceEq, Int.reduceNe, Int.cast_ofNat_Int, Int.natCast_one, Int.natCast_zero, Int.natCast_add, reduceCtorEq]
    exact List.prefix_append _ _
  · simp only [go_sem, ↓reduceIte, Nat.reduceEqDiff, Nat.reduceAdd, Nat.reduceMul, Nat.reduceLT, Nat.reduceLeDiff, Int.reduceLT, Int.reduceLE, Int.reduceNeg, Int.reduceAdd, Int.reduceSub, Int.reduceMul, Int.reduceToNat, Int.reduceEq, Int.reduceNe, Int.cast_ofNat_Int, Int.natCast_one, Int.natCast_zero, Int.natCast_add, reduceCtorEq, Tk.cells, h2]
    exact List.prefix_append _ _
theorem num_len {n : Int} (h : -9223372036854775808 ≤ n ∧ n ≤ 9223372036854775807) : (num n).length ≤ 21 := by
  unfold num
  split
  · have := dec_len 19 (-n).toNat (by omega)
    simp
    omega
  · have := dec_len 19 n.toNat (by omega)
    omega
set_option maxHeartbeats 1000000 in
theorem f19_ok (X : Ext) (x : Tk) (hs : x.text.length ≤ 140737488351232) (hv : -9223372036854775808 ≤ x.value ∧ x.value ≤ 9223372036854775807) (σ : Heap) : CW Tryd.prog X 19 [.agg x.cells.toArray] σ fun v σ' => v = .bool (validT x) ∧ σ <+: σ' := by
  rw [← isTok_eq]
  refine cw_in Tryd.func19 rfl Tryd.ntmps19 (rs := [.tmp 2]) rfl (by kernel_rfl) (by exact Nat.le_of_ble_eq_true rfl) ?_
  have ht : (textOf x).length ≤ 140737488351232 := by
    unfold textOf
    split
    · have := num_len hv; omega
    · exact hs
  by_cases h2 : x.kind = 2
  · have h2' : decide (x.kind = 2) = true := decide_eq_true h2
    simp only [go_sem, ↓reduceIte, Nat.reduceEqDiff, Nat.reduceAdd, Nat.reduceMul, Nat.reduceLT, Nat.reduceLeDiff, Int.reduceLT, Int.reduceLE, Int.reduceNeg, Int.reduceAdd, Int.reduceSub, Int.reduceMul, Int.reduceToNat, Int.reduceEq, Int.reduceNe, Int.cast_ofNat_Int, Int.natCast_one, Int.natCast_zero, Int.natCast_add, reduceCtorEq, Tk.cells, h2']
    refine (f22_ok X _ 0 4294967295 _).mono ?_
    rintro _ _ ⟨rfl, rfl⟩
    by_cases hr : 0 ≤ x.value ∧ x.value ≤ 4294967295
    · simp only [go_sem, ↓reduceIte, Nat.reduceEqDiff, Nat.reduceAdd, Nat.reduceMul, Nat.reduceLT, Nat.reduceLeDiff, Int.reduceLT, Int.reduceLE, Int.reduceNeg, Int.reduceAdd, Int.reduceSub, Int.reduceMul, Int.reduceToNat, Int.reduceEq, Int.reduceNe, Int.cast_ofNat_Int, Int.natCast_one, Int.natCast_zero, Int.natCast_add, reduceCtorEq, h2', hr]
      have hno : ¬ (x.kind = 2 ∧ ¬ (0 ≤ x.value ∧ x.value ≤ 4294967295)) := by simp [hr]
      refine (f49_ok X x hv _).mono ?_
      rintro _ _ ⟨rfl, τ, rfl⟩
      simp only [go_sem, ↓reduceIte, Nat.reduceEqDiff, Nat.reduceAdd, Nat.reduceMul, Nat.reduceLT, Nat.reduceLeDiff, Int.reduceLT, Int.reduceLE, Int.reduceNeg, Int.reduceAdd, Int.reduceSub, Int.reduceMul, Int.reduceToNat, Int.reduceEq, Int.reduceNe, Int.cast_ofNat_Int, Int.natCast_one, Int.natCast_zero, Int.natCast_add, reduceCtorEq]
      refine (f48_ok X (textOf x) ht _).mono ?_
      rintro _ _ ⟨rfl, τ2, rfl⟩
      have hi : isTok x = ((tokOf (textOf x)).2 && (decide ((tokOf (textOf x)).1.kind = x.kind) && (decide ((tokOf (textOf x)).1.text = x.text) && decide ((tokOf (textOf x)).1.value = x.value)))) := by
        rw [isTok, if_neg hno]
      rw [hi]
      generalize (tokOf (textOf x)).1 = y
      cases (tokOf (textOf x)).2 with
      | false =>
        simp only [go_sem, ↓reduceIte, Nat.reduceEqDiff, Nat.reduceAdd, Nat.reduceMul, Nat.reduceLT, Nat.reduceLeDiff, Int.reduceLT, Int.reduceLE, Int.reduceNeg, Int.reduceAdd, Int.reduceSub, Int.reduceMul, Int.reduceToNat, Int.reduceEq, Int.reduceNe, Int.cast_ofNat_Int, Int.natCast_one, Int.natCast_zero, Int.natCast_add, reduceCtorEq, Tk.cells]
        exact List.prefix_append _ _
      | true =>
        by_cases k1 : y.kind = x.kind
        · by_cases k2 : y.text = x.text
          · simp only [go_sem, ↓reduceIte, Nat.reduceEqDiff, Nat.reduceAdd, Nat.reduceMul, Nat.reduceLT, Nat.reduceLeDiff, Int.reduceLT, Int.reduceLE, Int.reduceNeg, Int.reduceAdd, Int.reduceSub, Int.reduceMul, Int.reduceToNat, Int.reduceEq, Int.reduceNe, Int.cast_ofNat_Int, Int.natCast_one, Int.natCast_zero, Int.natCast_add, reduceCtorEq, Tk.cells, k1, k2]
            exact List.prefix_append _ _
          · simp only [go_sem, ↓reduceIte, Nat.reduceEqDiff, Nat.reduceAdd, Nat.reduceMul, Nat.reduceLT, Nat.reduceLeDiff, Int.reduceLT, Int.reduceLE, Int.reduceNeg, Int.reduceAdd, Int.reduceSub, Int.reduceMul, Int.reduceToNat, Int.reduceEq, Int.reduceNe, Int.cast_ofNat_Int, Int.natCast_one, Int.natCast_zero, Int.natCast_add, reduceCtorEq, Tk.cells, k1, k2]
            exact List.prefix_append _ _
        · simp only [go_sem, ↓reduceIte, Nat.reduceEqDiff, Nat.reduceAdd, Nat.reduceMul, Nat.reduceLT, Nat.reduceLeDiff, Int.reduceLT, Int.reduceLE, Int.reduceNeg, Int.reduceAdd, Int.reduceSub, Int.reduceMul, Int.reduceToNat, Int.reduceEq, Int.reduceNe, Int.cast_ofNat_Int, Int.natCast_one, Int.natCast_zero, Int.natCast_add, reduceCtorEq, Tk.cells, k1]
          exact List.prefix_append _ _
    · simp only [go_sem, ↓reduceIte, Nat.reduceEqDiff, Nat.reduceAdd, Nat.reduceMul, Nat.reduceLT, Nat.reduceLeDiff, Int.reduceLT, Int.reduceLE, Int.reduceNeg, Int.reduceAdd, Int.reduceSub, Int.reduceMul, Int.reduceToNat, Int.reduceEq, Int.reduceNe, Int.cast_ofNat_Int, Int.natCast_one, Int.natCast_zero, Int.natCast_add, reduceCtorEq, h2', hr]
      have hi : isTok x = false := by rw [isTok, if_pos ⟨h2, hr⟩]
      rw [hi]
      exact ⟨rfl, List.prefix_append _ _⟩
  · simp only [go_sem, ↓reduceIte, Nat.reduceEqDiff, Nat.reduceAdd, Nat.reduceMul, Nat.reduceLT, Nat.reduceLeDiff, Int.reduceLT, Int.reduceLE, Int.reduceNeg, Int.reduceAdd, Int.reduceSub, Int.reduceMul, Int.reduceToNat, Int.reduceEq, Int.reduceNe, Int.cast_ofNat_Int, Int.natCast_one, Int.natCast_zero, Int.natCast_add, reduceCtorEq, Tk.cells, h2]
    have hno : ¬ (x.kind = 2 ∧ ¬ (0 ≤ x.value ∧ x.value ≤ 4294967295)) := by simp [h2]
    refine (f49_ok X x hv _).mono ?_
    rintro _ _ ⟨rfl, τ, rfl⟩
    simp only [go_sem, ↓reduceIte, Nat.reduceEqDiff, Nat.reduceAdd, Nat.reduceMul, Nat.reduceLT, Nat.reduceLeDiff, Int.reduceLT, Int.reduceLE, Int.reduceNeg, Int.reduceAdd, Int.reduceSub, Int.reduceMul, Int.reduceToNat, Int.reduceEq, Int.reduceNe, Int.cast_ofNat_Int, Int.natCast_one, Int.natCast_zero, Int.natCast_add, reduceCtorEq]
    refine (f48_ok X (textOf x) ht _).mono ?_
    rintro _ _ ⟨rfl, τ2, rfl⟩
    have hi : isTok x = ((tokOf (textOf x)).2 && (decide ((tokOf (textOf x)).1.kind = x.kind) && (decide ((tokOf (textOf x)).1.text = x.text) && decide ((tokOf (textOf x)).1.value = x.value)))) := by
      rw [isTok, if_neg hno]
    rw [hi]
    generalize (tokOf (textOf x)).1 = y
    cases (tokOf (textOf x)).2 with
    | false =>
      simp only [go_sem, ↓reduceIte, Nat.reduceEqDiff, Nat.reduceAdd, Nat.reduceMul, Nat.reduceLT, Nat.reduceLeDiff, Int.reduceLT, Int.reduceLE, Int.reduceNeg, Int.reduceAdd, Int.reduceSub, Int.reduceMul, Int.reduceToNat, Int.reduceEq, Int.reduceNe, Int.cast_ofNat_Int, Int.natCast_one, Int.natCast_zero, Int.natCast_add, reduceCtorEq, Tk.cells]
      exact List.prefix_append _ _
    | true =>
      by_cases k1 : y.kind = x.kind
      · by_cases k2 : y.text = x.text
        · simp only [go_sem, ↓reduceIte, Nat.reduceEqDiff, Nat.reduceAdd, Nat.reduceMul, Nat.reduceLT, Nat.reduceLeDiff, Int.reduceLT, Int.reduceLE, Int.reduceNeg, Int.reduceAdd, Int.reduceSub, Int.reduceMul, Int.reduceToNat, Int.reduceEq, Int.reduceNe, Int.cast_ofNat_Int, Int.natCast_one, Int.natCast_zero, Int.natCast_add, reduceCtorEq, Tk.cells, k1, k2]
          exact List.prefix_append _ _
        · simp only [go_sem, ↓reduceIte, Nat.reduceEqDiff, Nat.reduceAdd, Nat.reduceMul, Nat.reduceLT, Nat.reduceLeDiff, Int.reduceLT, Int.reduceLE, Int.reduceNeg, Int.reduceAdd, Int.reduceSub, Int.reduceMul, Int.reduceToNat, Int.reduceEq, Int.reduceNe, Int.cast_ofNat_Int, Int.natCast_one, Int.natCast_zero, Int.natCast_add, reduceCtorEq, Tk.cells, k1, k2]
          exact List.prefix_append _ _
      · simp only [go_sem, ↓reduceIte, Nat.reduceEqDiff, Nat.reduceAdd, Nat.reduceMul, Nat.reduceLT, Nat.reduceLeDiff, Int.reduceLT, Int.reduceLE, Int.reduceNeg, Int.reduceAdd, Int.reduceSub, Int.reduceMul, Int.reduceToNat, Int.reduceEq, Int.reduceNe, Int.cast_ofNat_Int, Int.natCast_one, Int.natCast_zero, Int.natCast_add, reduceCtorEq, Tk.cells, k1]
        exact List.prefix_append _ _
end Go.Proofs.YtkgdkommahgakaaDoor.Abs
