/- Part GroupN of the proof: an abstract machine for the program's calls, and what functions do on it. It has no conditions. -/
import Derived.Test.YtkgdkommahgakaaDoorGroupM
import Derived.Test.YtkgdkommahgakaaDoorGroupK
/- token.number (f92) over strconv.ParseUint: the reference's meaning of a number; token.next (f61). -/
namespace Go.Proofs.YtkgdkommahgakaaDoor.Abs
open Go Go.RowKit
set_option linter.unusedVariables false
set_option linter.unusedSimpArgs false
set_option maxRecDepth 100000

def dgtOk (c : UInt8) : Bool := if hexv c.toNat < 0 then (match dgt c with | none => true | some d => decide (16 ≤ d)) else decide (dgt c = some (hexv c.toNat).toNat)
theorem dgtOk_all : ∀ i : Fin 256, dgtOk (UInt8.ofNat i.val) = true := by decide +kernel
theorem dgtOk_at (c : UInt8) : dgtOk c = true := by
  have := dgtOk_all ⟨c.toNat, c.toNat_lt⟩
  rwa [show UInt8.ofNat (⟨c.toNat, c.toNat_lt⟩ : Fin 256).val = c from UInt8.ofNat_toNat] at this
def PR.opt : PR → Option Int
  | .ok n => some n
  | _ => none
theorem pu_den (b : Nat) (hb : b ≤ 16) : ∀ (l : List UInt8) (acc : Nat), (pu b acc l).opt = denL b acc l
  | [], acc => rfl
  | c :: l, acc => by
    have hc := dgtOk_at c
    unfold dgtOk at hc
    rw [pu, denL]
    by_cases hn : hexv c.toNat < 0
    · rw [if_pos hn] at hc
      rw [if_pos (.inl hn)]
      cases hd : dgt c with
      | none => rfl
      | some d =>
        rw [hd] at hc
        simp only [decide_eq_true_eq] at hc
        simp only
        rw [if_pos (by omega)]
        rfl
    · rw [if_neg hn] at hc
      have hd : dgt c = some (hexv c.toNat).toNat := by simpa using hc
      rw [hd]
      simp only
      by_cases h1 : b ≤ (hexv c.toNat).toNat
      · rw [if_pos h1, if_pos (.inr (by omega))]
        rfl
      · rw [if_neg h1, if_neg (show ¬ (hexv c.toNat < 0 ∨ (b : Int) ≤ hexv c.toNat) by omega)]
        have he : ((acc * b + (hexv c.toNat).toNat : Nat) : Int) = (acc : Int) * b + hexv c.toNat := by
          rw [Int.natCast_add, Int.natCast_mul, Int.toNat_of_nonneg (by omega)]
        by_cases h2 : 4294967295 < acc * b + (hexv c.toNat).toNat
        · rw [if_pos h2, if_pos (by rw [← he]; omega)]
          rfl
        · rw [if_neg h2, if_neg (by rw [← he]; omega), ← he]
          exact pu_den b hb l _
def pre0x (l : List UInt8) : Bool := decide (2 ≤ l.length ∧ l.take 2 = [48, 120])
def numP (l : List UInt8) : PR := if pre0x l = true then puE 16 (l.drop 2) else puE 10 l
def PR.val : PR → Nat
  | .ok n => n
  | .syn => 0
  | .range => 4294967295
def numOk (l : List UInt8) : Bool := match numP l with
  | .ok _ => pre0x l || (decide (l.length = 1) || !decide (l[0]? = some 48))
  | _ => false
theorem num_den (l : List UInt8) : numOk l = (den l).2 ∧ (numOk l = true → ((numP l).val : Int) = (den l).1) := by
  have hx : ∀ (m : List UInt8) (b : Nat), b ≤ 16 → m ≠ [] → (puE b m).opt = denL b 0 m := fun m b hb hm => by rw [puE, if_neg hm]; exact pu_den b hb m 0
  by_cases hp : pre0x l = true
  · have hp' := hp
    unfold pre0x at hp'
    simp only [decide_eq_true_eq] at hp'
    obtain ⟨x, y, m, rfl⟩ : ∃ x y m, l = x :: y :: m := by
      match l, hp'.1 with
      | x :: y :: m, _ => exact ⟨x, y, m, rfl⟩
    simp only [List.take_succ_cons, List.take_zero, List.cons.injEq, and_true] at hp'
    obtain ⟨_, rfl, rfl⟩ := hp'
    unfold numOk numP
    rw [if_pos hp]
    simp only [List.drop_succ_cons, List.drop_zero]
    by_cases hm : m = []
    · subst hm
      decide
    · have h1 := hx m 16 (by omega) hm
      have hh : hexy (48 :: 120 :: m) = true := by
        cases m with
        | nil => exact absurd rfl hm
        | cons z m => simp [hexy]
      unfold den denB denF
      simp only [hh, if_true, List.drop_succ_cons, List.drop_zero]
      rw [show ((16 : Nat) : Int) = 16 from rfl] at h1
      rw [← h1]
      have hml : 0 < m.length := List.length_pos_iff.2 hm
      cases puE 16 m <;> simp [PR.opt, PR.val, hp, hml]
  · unfold numOk numP
    rw [if_neg hp]
    have hp2 : pre0x l = false := by simpa using hp
    have hh : hexy l = false := by
      unfold pre0x at hp2
      unfold hexy
      simp only [decide_eq_false_iff_not, not_and] at hp2
      by_cases h2 : 2 < l.length
      · match l, h2 with
        | x :: y :: m, _ =>
          have := hp2 (by simp)
          simp at this
          by_cases hx : x = 48 <;> simp [hx]
          exact fun _ => this hx
      · simp [h2]
    by_cases hl : l = []
    · subst hl
      decide
    · have h1 := hx l 10 (by omega) hl
      have hll : 0 < l.length := List.length_pos_iff.2 hl
      unfold den denB denF
      simp only [hh, Bool.false_eq_true, if_false, List.drop_zero]
      rw [show ((10 : Nat) : Int) = 10 from rfl] at h1
      rw [← h1]
      cases puE 10 l <;> simp [PR.opt, PR.val, hp2, hll]
theorem q130a : abin Tryd.prog .eql 130 .nilIface .nilIface = some (.bool true) := by kernel_rfl
theorem q130b {t : TypeId} {v : Value} : abin Tryd.prog .eql 130 (.iface t v) .nilIface = some (.bool false) := by kernel_rfl
theorem q130c {x : Operand} {c : Value} : aguard Tryd.prog .eql 130 x (.const c) .nilIface .nilIface = true := by
  show (constOp x || true) = true
  simp
theorem q130d {x y : Operand} {t : TypeId} {v : Value} : aguard Tryd.prog .eql 130 x y (.iface t v) .nilIface = true := by kernel_rfl
attribute [go_sem] q130a q130b q130c q130d
set_option maxHeartbeats 1000000 in
theorem f119_ok (X : Ext) (l p : List UInt8) (hl : l.length ≤ 140737488351232) (hp : p.length ≤ 1000) (σ : Heap) : CW Tryd.prog X 119 [.string (str l), .string (str p)] σ fun v σ' => v = .bool (decide (p.length ≤ l.length ∧ l.take p.length = p)) ∧ σ' = σ := by
  refine cw_in Tryd.func119 rfl Tryd.ntmps119 (rs := [.tmp 4]) rfl (by kernel_rfl) (by exact Nat.le_of_ble_eq_true rfl) ?_
  by_cases h : p.length ≤ l.length
  · have hi : (p.length : Int) ≤ (l.length : Int) := by omega
    simp only [go_sem, ↓reduceIte, Nat.reduceEqDiff, Nat.reduceAdd, Nat.reduceMul, Nat.reduceLT, Nat.reduceLeDiff, Int.reduceLT, Int.reduceLE, Int.reduceNeg, Int.reduceAdd, Int.reduceSub, Int.reduceMul, Int.reduceToNat, Int.reduceEq, Int.reduceNe, Int.cast_ofNat_Int, Int.natCast_one, Int.natCast_zero, Int.natCast_add, reduceCtorEq, hi, h, Nat.sub_zero]
  · have hi : ¬ (p.length : Int) ≤ (l.length : Int) := by omega
    simp only [go_sem, ↓reduceIte, Nat.reduceEqDiff, Nat.reduceAdd, Nat.reduceMul, Nat.reduceLT, Nat.reduceLeDiff, Int.reduceLT, Int.reduceLE, Int.reduceNeg, Int.reduceAdd, Int.reduceSub, Int.reduceMul, Int.reduceToNat, Int.reduceEq, Int.reduceNe, Int.cast_ofNat_Int, Int.natCast_one, Int.natCast_zero, Int.natCast_add, reduceCtorEq, hi, h]
theorem f113_ok (X : Ext) (l p : List UInt8) (hl : l.length ≤ 140737488351232) (hp : p.length ≤ 1000) (σ : Heap) : CW Tryd.prog X 113 [.string (str l), .string (str p)] σ fun v σ' => v = .bool (decide (p.length ≤ l.length ∧ l.take p.length = p)) ∧ σ' = σ := by
  refine cw_in Tryd.func113 rfl Tryd.ntmps113 (rs := [.tmp 4]) rfl (by kernel_rfl) (by exact Nat.le_of_ble_eq_true rfl) ?_
  simp only [go_sem, ↓reduceIte, Nat.reduceEqDiff, Nat.reduceAdd, Nat.reduceMul, Nat.reduceLT, Nat.reduceLeDiff, Int.reduceLT, Int.reduceLE, Int.reduceNeg, Int.reduceAdd, Int.reduceSub, Int.reduceMul, Int.reduceToNat, Int.reduceEq, Int.reduceNe, Int.cast_ofNat_Int, Int.natCast_one, Int.natCast_zero, Int.natCast_add, reduceCtorEq]
  refine (f119_ok X l p hl hp _).mono ?_
  rintro _ _ ⟨rfl, rfl⟩
  simp only [go_sem, ↓reduceIte, Nat.reduceEqDiff, Nat.reduceAdd, Nat.reduceMul, Nat.reduceLT, Nat.reduceLeDiff, Int.reduceLT, Int.reduceLE, Int.reduceNeg, Int.reduceAdd, Int.reduceSub, Int.reduceMul, Int.reduceToNat, Int.reduceEq, Int.reduceNe, Int.cast_ofNat_Int, Int.natCast_one, Int.natCast_zero, Int.natCast_add, reduceCtorEq]
theorem pu_le (b : Nat) : ∀ (l : List UInt8) (acc n : Nat), acc ≤ 4294967295 → pu b acc l = .ok n → n ≤ 4294967295
  | [], acc, n, ha, h => by simp [pu] at h; omega
  | c :: l, acc, n, ha, h => by
    rw [pu] at h
    split at h
    · simp at h
    · split at h
      · simp at h
      · split at h
        · simp at h
        · exact pu_le b l _ n (by omega) h
theorem puE_le {b : Nat} {l : List UInt8} {n : Nat} (h : puE b l = .ok n) : n ≤ 4294967295 := by
  unfold puE at h
  split at h
  · simp at h
  · exact pu_le b l 0 n (by omega) h
theorem puE_ne {b n : Nat} {l : List UInt8} (h : puE b l = .ok n) : l ≠ [] := by
  rintro rfl
  simp [puE] at h
set_option maxHeartbeats 4000000 in
theorem f92_ok (l : List UInt8) (hl : l.length ≤ 140737488351232) (σ : Heap) (hG : GE σ) : CW Tryd.prog XT 92 [.string (str l)] σ fun v σ' => v = .tuple #[.int .i64 (numP l).val, .bool (numOk l)] ∧ σ' = σ := by
  refine cw_in Tryd.func92 rfl Tryd.ntmps92 (rs := [.tmp 2, .tmp 3]) rfl (by kernel_rfl) (by exact Nat.le_of_ble_eq_true rfl) ?_
  have b48 : ∀ b : UInt8, ((b.toNat : Int) = 48) = (b = 48) := fun b => u8_eq b 48 (by omega)
  have b48' : ∀ b : UInt8, ((b.toNat : Int) ≠ 48) = (b ≠ 48) := fun b => by rw [ne_eq, b48]
  simp only [go_sem, ↓reduceIte, Nat.reduceEqDiff, Nat.reduceAdd, Nat.reduceMul, Nat.reduceLT, Nat.reduceLeDiff, Int.reduceLT, Int.reduceLE, Int.reduceNeg, Int.reduceAdd, Int.reduceSub, Int.reduceMul, Int.reduceToNat, Int.reduceEq, Int.reduceNe, Int.cast_ofNat_Int, Int.natCast_one, Int.natCast_zero, Int.natCast_add, reduceCtorEq]
  refine (f113_ok XT l [48, 120] hl (by simp) _).mono ?_
  rintro _ _ ⟨rfl, rfl⟩
  rw [show decide (([48, 120] : List UInt8).length ≤ l.length ∧ l.take ([48, 120] : List UInt8).length = [48, 120]) = pre0x l from rfl]
  unfold numOk numP
  cases hp : pre0x l with
  | true =>
    have h2 : 2 ≤ l.length := by unfold pre0x at hp; simp at hp; exact hp.1
    have htd : (l.drop 2).take (l.length - 2) = l.drop 2 := List.take_of_length_le (by simp)
    simp only [go_sem, ↓reduceIte, Nat.reduceEqDiff, Nat.reduceAdd, Nat.reduceMul, Nat.reduceLT, Nat.reduceLeDiff, Int.reduceLT, Int.reduceLE, Int.reduceNeg, Int.reduceAdd, Int.reduceSub, Int.reduceMul, Int.reduceToNat, Int.reduceEq, Int.reduceNe, Int.cast_ofNat_Int, Int.natCast_one, Int.natCast_zero, Int.natCast_add, reduceCtorEq, hp, show (2 : Int) ≤ (l.length : Int) by omega, Int.le_refl, htd]
    refine (f114_ok (l.drop 2) 16 (.inl rfl) (by simp; omega) _ hG).mono ?_
    rintro _ _ ⟨rfl, rfl⟩
    cases hq : puE 16 (l.drop 2) with
    | ok n =>
      have hw : IntKind.i64.wrap (n : Int) = (n : Int) := wrap64 (by have := puE_le hq; omega)
      simp only [go_sem, ↓reduceIte, Nat.reduceEqDiff, Nat.reduceAdd, Nat.reduceMul, Nat.reduceLT, Nat.reduceLeDiff, Int.reduceLT, Int.reduceLE, Int.reduceNeg, Int.reduceAdd, Int.reduceSub, Int.reduceMul, Int.reduceToNat, Int.reduceEq, Int.reduceNe, Int.cast_ofNat_Int, Int.natCast_one, Int.natCast_zero, Int.natCast_add, reduceCtorEq, prA, hp, hq, PR.val, hw]
    | syn =>
      simp only [go_sem, ↓reduceIte, Nat.reduceEqDiff, Nat.reduceAdd, Nat.reduceMul, Nat.reduceLT, Nat.reduceLeDiff, Int.reduceLT, Int.reduceLE, Int.reduceNeg, Int.reduceAdd, Int.reduceSub, Int.reduceMul, Int.reduceToNat, Int.reduceEq, Int.reduceNe, Int.cast_ofNat_Int, Int.natCast_one, Int.natCast_zero, Int.natCast_add, reduceCtorEq, prA, hp, hq, PR.val]
    | range =>
      simp only [go_sem, ↓reduceIte, Nat.reduceEqDiff, Nat.reduceAdd, Nat.reduceMul, Nat.reduceLT, Nat.reduceLeDiff, Int.reduceLT, Int.reduceLE, Int.reduceNeg, Int.reduceAdd, Int.reduceSub, Int.reduceMul, Int.reduceToNat, Int.reduceEq, Int.reduceNe, Int.cast_ofNat_Int, Int.natCast_one, Int.natCast_zero, Int.natCast_add, reduceCtorEq, prA, hp, hq, PR.val]
  | false =>
    simp only [go_sem, ↓reduceIte, Nat.reduceEqDiff, Nat.reduceAdd, Nat.reduceMul, Nat.reduceLT, Nat.reduceLeDiff, Int.reduceLT, Int.reduceLE, Int.reduceNeg, Int.reduceAdd, Int.reduceSub, Int.reduceMul, Int.reduceToNat, Int.reduceEq, Int.reduceNe, Int.cast_ofNat_Int, Int.natCast_one, Int.natCast_zero, Int.natCast_add, reduceCtorEq, hp]
    refine (f114_ok l 10 (.inr rfl) (by omega) _ hG).mono ?_
    rintro _ _ ⟨rfl, rfl⟩
    cases hq : puE 10 l with
    | ok n =>
      have hw : IntKind.i64.wrap (n : Int) = (n : Int) := wrap64 (by have := puE_le hq; omega)
      have hne := puE_ne hq
      have hll : 0 < l.length := List.length_pos_iff.2 hne
      by_cases h1 : l.length = 1
      · simp only [go_sem, ↓reduceIte, Nat.reduceEqDiff, Nat.reduceAdd, Nat.reduceMul, Nat.reduceLT, Nat.reduceLeDiff, Int.reduceLT, Int.reduceLE, Int.reduceNeg, Int.reduceAdd, Int.reduceSub, Int.reduceMul, Int.reduceToNat, Int.reduceEq, Int.reduceNe, Int.cast_ofNat_Int, Int.natCast_one, Int.natCast_zero, Int.natCast_add, reduceCtorEq, prA, hp, hq, PR.val, hw, h1, eq_true (show (l.length : Int) = 1 by omega)]
      · obtain ⟨b, hb⟩ : ∃ b, l[0]? = some b := ⟨_, List.getElem?_eq_getElem hll⟩
        by_cases hbb : b = 48
        · simp only [go_sem, ↓reduceIte, Nat.reduceEqDiff, Nat.reduceAdd, Nat.reduceMul, Nat.reduceLT, Nat.reduceLeDiff, Int.reduceLT, Int.reduceLE, Int.reduceNeg, Int.reduceAdd, Int.reduceSub, Int.reduceMul, Int.reduceToNat, Int.reduceEq, Int.reduceNe, Int.cast_ofNat_Int, Int.natCast_one, Int.natCast_zero, Int.natCast_add, reduceCtorEq, prA, hp, hq, PR.val, hw, h1, eq_false (show ¬ (l.length : Int) = 1 by omega), hb, b48', b48, hbb]
        · simp only [go_sem, ↓reduceIte, Nat.reduceEqDiff, Nat.reduceAdd, Nat.reduceMul, Nat.reduceLT, Nat.reduceLeDiff, Int.reduceLT, Int.reduceLE, Int.reduceNeg, Int.reduceAdd, Int.reduceSub, Int.reduceMul, Int.reduceToNat, Int.reduceEq, Int.reduceNe, Int.cast_ofNat_Int, Int.natCast_one, Int.natCast_zero, Int.natCast_add, reduceCtorEq, prA, hp, hq, PR.val, hw, h1, eq_false (show ¬ (l.length : Int) = 1 by omega), hb, b48', b48, hbb, eq_false hbb]
          simp [hbb]
    | syn =>
      simp only [go_sem, ↓reduceIte, Nat.reduceEqDiff, Nat.reduceAdd, Nat.reduceMul, Nat.reduceLT, Nat.reduceLeDiff, Int.reduceLT, Int.reduceLE, Int.reduceNeg, Int.reduceAdd, Int.reduceSub, Int.reduceMul, Int.reduceToNat, Int.reduceEq, Int.reduceNe, Int.cast_ofNat_Int, Int.natCast_one, Int.natCast_zero, Int.natCast_add, reduceCtorEq, prA, hp, hq, PR.val]
    | range =>
      simp only [go_sem, ↓reduceIte, Nat.reduceEqDiff, Nat.reduceAdd, Nat.reduceMul, Nat.reduceLT, Nat.reduceLeDiff, Int.reduceLT, Int.reduceLE, Int.reduceNeg, Int.reduceAdd, Int.reduceSub, Int.reduceMul, Int.reduceToNat, Int.reduceEq, Int.reduceNe, Int.cast_ofNat_Int, Int.natCast_one, Int.natCast_zero, Int.natCast_add, reduceCtorEq, prA, hp, hq, PR.val]
end Go.Proofs.YtkgdkommahgakaaDoor.Abs

/- token.String (f90), token.Line (f60), token.Join (f35) and the reference's text of tokens (f36). -/
namespace Go.Proofs.YtkgdkommahgakaaDoor.Abs
open Go Go.RowKit Gram
set_option linter.unusedVariables false
set_option linter.unusedSimpArgs false
set_option maxRecDepth 100000

theorem dec_dig (n : Nat) : Lib.decDigits n = dec n := by
  induction n using Nat.strongRecOn with
  | _ n ih =>
    rw [Lib.decDigits, dec]
    split
    · rfl
    · rw [ih (n / 10) (by omega)]
theorem valid_val {x : Tk} (h : validT x = true) : 0 ≤ x.value ∧ x.value ≤ 4294967295 := by
  unfold validT at h
  repeat' split at h
  all_goals simp_all
  all_goals omega
theorem valid_len {x : Tk} (h : validT x = true) : (textOf x).length ≤ 21 := by
  have hv := valid_val h
  unfold textOf
  split
  · exact num_len (by omega)
  · rename_i h2
    unfold validT at h
    rw [if_neg h2] at h
    split at h
    · have := nameOk_len (by simp at h; exact h.1); omega
    · split at h
      · have hm : x.text ∈ signs := by simp at h; exact h.1
        rcases signs_single _ hm with h | h <;> omega
      · simp at h
set_option maxHeartbeats 1000000 in
theorem f90_ok (x : Tk) (h : validT x = true) (σ : Heap) (hG : GP σ) : CW Tryd.prog XT 90 [.agg x.cells.toArray] σ fun v σ' => v = .string (str (textOf x)) ∧ σ <+: σ' := by
  refine cw_in Tryd.func90 rfl Tryd.ntmps90 (rs := [.tmp 2]) rfl (by kernel_rfl) (by exact Nat.le_of_ble_eq_true rfl) ?_
  obtain ⟨v0, v1⟩ := valid_val h
  unfold textOf
  by_cases h2 : x.kind = 2
  · obtain ⟨u, hu⟩ : ∃ u : Nat, x.value = u := ⟨x.value.toNat, by omega⟩
    simp only [go_sem, ↓reduceIte, Nat.reduceEqDiff, Nat.reduceAdd, Nat.reduceMul, Nat.reduceLT, Nat.reduceLeDiff, Int.reduceLT, Int.reduceLE, Int.reduceNeg, Int.reduceAdd, Int.reduceSub, Int.reduceMul, Int.reduceToNat, Int.reduceEq, Int.reduceNe, Int.cast_ofNat_Int, Int.natCast_one, Int.natCast_zero, Int.natCast_add, reduceCtorEq, Tk.cells, h2, hu]
    refine (f111_ok u (by omega) _ (hG.mono (List.prefix_append _ _))).mono ?_
    rintro _ _ ⟨rfl, rfl⟩
    simp only [go_sem, ↓reduceIte, Nat.reduceEqDiff, Nat.reduceAdd, Nat.reduceMul, Nat.reduceLT, Nat.reduceLeDiff, Int.reduceLT, Int.reduceLE, Int.reduceNeg, Int.reduceAdd, Int.reduceSub, Int.reduceMul, Int.reduceToNat, Int.reduceEq, Int.reduceNe, Int.cast_ofNat_Int, Int.natCast_one, Int.natCast_zero, Int.natCast_add, reduceCtorEq]
    refine ⟨?_, List.prefix_append _ _⟩
    rw [num, if_neg (by omega), dec_dig]
    rfl
  · simp only [go_sem, ↓reduceIte, Nat.reduceEqDiff, Nat.reduceAdd, Nat.reduceMul, Nat.reduceLT, Nat.reduceLeDiff, Int.reduceLT, Int.reduceLE, Int.reduceNeg, Int.reduceAdd, Int.reduceSub, Int.reduceMul, Int.reduceToNat, Int.reduceEq, Int.reduceNe, Int.cast_ofNat_Int, Int.natCast_one, Int.natCast_zero, Int.natCast_add, reduceCtorEq, Tk.cells, h2]
    exact List.prefix_append _ _

/-- A row of strings that was built behind b. -/
def TR (b : Nat) (σ : Heap) (L : List (List UInt8)) (v : Value) : Prop := (L = [] ∧ v = .slice none 0 0) ∨ ∃ q c, v = .slice (some ⟨q, 0, none⟩) L.length c ∧ b ≤ q ∧ 0 < L.length ∧ look σ q = some ⟨L.map vstr, true, 1⟩
theorem TR.ts {b : Nat} {σ : Heap} {L : List (List UInt8)} {v : Value} (h : TR b σ L v) : TS σ L v := by
  rcases h with ⟨rfl, rfl⟩ | ⟨q, c, h1, h2, h3, h4⟩
  · exact .inl ⟨rfl, rfl⟩
  · exact .inr ⟨q, c, _, h1, h4⟩
theorem TR.mono {b : Nat} {σ σ' : Heap} {L : List (List UInt8)} {v : Value} (h : TR b σ L v) (hp : σ <+: σ') : TR b σ' L v := by
  rcases h with h | ⟨q, c, h1, h2, h3, h4⟩
  · exact .inl h
  · exact .inr ⟨q, c, h1, h2, h3, look_prefix hp h4⟩
theorem app_str {σ0 σ : Heap} {L : List (List UInt8)} {nv : Value} (hp : σ0 <+: σ) (h : TR σ0.length σ L nv) (x : List UInt8) (hs : L.length ≤ 10000) :
    ∃ nv' σ', aappend Tryd.prog (σ ++ [some ⟨[.string (str x)], true, 1⟩]) #[62, 62] nv (.slice (some ⟨σ.length, 0, none⟩) 1 1) = some (nv', σ') ∧ σ0 <+: σ' ∧ TR σ0.length σ' (L ++ [x]) nv' := by
  have hsrc : asrc (σ ++ [some ⟨[.string (str x)], true, 1⟩]) 1 (.slice (some ⟨σ.length, 0, none⟩) 1 1) = some (1, [.string (str x)]) := by
    rw [src_ptr (b := ⟨[.string (str x)], true, 1⟩) (by rw [look_app_new, look_zero]) (by simp)]
    rfl
  have hl := hp.length_le
  rcases h with ⟨rfl, rfl⟩ | ⟨q, c, rfl, h2, h3, h4⟩
  · rw [an62_62, hsrc, Option.bind_some, if_pos (by simp)]
    refine ⟨_, _, rfl, (hp.trans (List.prefix_append _ _)).trans (List.prefix_append _ _), .inr ⟨_, _, rfl, by simp; omega, by simp, ?_⟩⟩
    rw [look_app_new, look_zero]
    simp [vstr]
  · have hq := look_lt h4
    rw [ap62_62, hsrc, Option.bind_some, if_pos (by simp; omega), if_neg (by omega), look_app_lt hq, h4, Option.bind_some, if_pos (by simp)]
    refine ⟨_, _, rfl, (prefix_set (hp.trans (List.prefix_append _ _)) h2).trans (List.prefix_append _ _), .inr ⟨(σ ++ [some (⟨[.string (str x)], true, 1⟩ : Blk)]).length, L.length + 1 + 1, by simp, by simp; omega, by simp, ?_⟩⟩
    have hh := look_app_new (σ := (σ ++ [some (⟨[.string (str x)], true, 1⟩ : Blk)]).set q none) (l := [some ⟨L.map vstr ++ [.string (str x)], true, 1⟩])
    rw [List.length_set] at hh
    rw [List.drop_zero, hh, look_zero, List.map_append]
    simp [vstr]
def joinT (A : List Tk) : List UInt8 := Lib.join (A.map textOf) [32]
theorem join_len (L : List (List UInt8)) (h : ∀ l ∈ L, l.length ≤ 21) : (Lib.join L [32]).length ≤ 22 * L.length := by
  have hl : Lib.lens L ≤ 21 * L.length := by
    induction L with
    | nil => simp [Lib.lens]
    | cons x L ih =>
      have h1 := h x (by simp)
      have h2 := ih (fun l hl => h l (by simp [hl]))
      simp only [Lib.lens, List.map_cons, List.sum_cons, List.length_cons] at *
      omega
  cases L with
  | nil => simp [Lib.join_nil]
  | cons x r =>
    rw [Lib.join_length]
    simp only [List.length_cons, List.length_nil] at *
    omega
theorem joinT_len {A : List Tk} (h : ∀ x ∈ A, validT x = true) : (joinT A).length ≤ 22 * A.length := by
  have := join_len (A.map textOf) (fun l hl => by
    obtain ⟨x, hx, rfl⟩ := List.mem_map.1 hl
    exact valid_len (h x hx))
  rw [List.length_map] at this
  exact this
theorem join_snoc (L : List (List UInt8)) (x sep : List UInt8) : Lib.join (L ++ [x]) sep = if L = [] then x else Lib.join L sep ++ (sep ++ x) := by
  cases L with
  | nil => simp [Lib.join_one]
  | cons y r =>
    rw [List.cons_append, Lib.join_cons, Lib.join_cons, if_neg (by simp), Lib.joinTail, Lib.joinTail]
    simp
set_option maxHeartbeats 4000000 in
theorem f60_ok (A : List Tk) (n c : Nat) (ow : Bool) (sz : Nat) (σ : Heap) (hl : look σ n = some ⟨A.flatMap Tk.cells, ow, sz⟩) (hA : ∀ x ∈ A, validT x = true) (hn : A.length ≤ 4000) (hG : GP σ) :
    CW Tryd.prog XT 60 [.slice (some ⟨n, 0, none⟩) A.length c] σ fun v σ' => v = .string (str (joinT A)) ∧ σ <+: σ' := by
  refine cw_in Tryd.func60 rfl Tryd.ntmps60 (rs := [.tmp 2]) rfl (by kernel_rfl) (by exact Nat.le_of_ble_eq_true rfl) ?_
  simp only [go_sem, ↓reduceIte, Nat.reduceEqDiff, Nat.reduceAdd, Nat.reduceMul, Nat.reduceLT, Nat.reduceLeDiff, Int.reduceLT, Int.reduceLE, Int.reduceNeg, Int.reduceAdd, Int.reduceSub, Int.reduceMul, Int.reduceToNat, Int.reduceEq, Int.reduceNe, Int.cast_ofNat_Int, Int.natCast_one, Int.natCast_zero, Int.natCast_add, reduceCtorEq]
  refine LW_run (fun k T ρ => ∃ (i : Nat) (nv : Value), i + k = A.length ∧ σ <+: ρ ∧ T 6 = .slice (some ⟨n, 0, none⟩) A.length c ∧ T 7 = .int .i64 A.length ∧ T 3 = nv ∧ T 8 = .int .i64 i ∧ TR σ.length ρ ((A.take i).map textOf) nv) A.length
    ⟨0, _, by simp, List.prefix_rfl, rfl, rfl, rfl, rfl, .inl ⟨by simp, rfl⟩⟩ ?_
  rintro k T ρ ⟨i, nv, hk, hp, t6, t7, t3, t8, hV⟩
  have hl2 := look_prefix hp hl
  simp only [go_sem, ↓reduceIte, Nat.reduceEqDiff, Nat.reduceAdd, Nat.reduceMul, Nat.reduceLT, Nat.reduceLeDiff, Int.reduceLT, Int.reduceLE, Int.reduceNeg, Int.reduceAdd, Int.reduceSub, Int.reduceMul, Int.reduceToNat, Int.reduceEq, Int.reduceNe, Int.cast_ofNat_Int, Int.natCast_one, Int.natCast_zero, Int.natCast_add, reduceCtorEq, t6, t7, t3, t8]
  refine fork_dec (fun _ => ?_) (fun _ => ?_)
  · rename_i hi
    obtain ⟨x, hx⟩ : ∃ x, A[i]? = some x := ⟨_, List.getElem?_eq_getElem (by omega)⟩
    have hxv := hA x (List.mem_of_getElem? hx)
    have hw : IntKind.i64.wrap ((i : Int) + 1) = (i : Int) + 1 := wrap64 (by omega)
    have htk : (A.take (i + 1)).map textOf = (A.take i).map textOf ++ [textOf x] := by rw [List.take_add_one, hx]; simp
    have hal := Tk.len A
    have hn2 := look_lt hl2
    simp only [go_sem, ↓reduceIte, Nat.reduceEqDiff, Nat.reduceAdd, Nat.reduceMul, Nat.reduceLT, Nat.reduceLeDiff, Int.reduceLT, Int.reduceLE, Int.reduceNeg, Int.reduceAdd, Int.reduceSub, Int.reduceMul, Int.reduceToNat, Int.reduceEq, Int.reduceNe, Int.cast_ofNat_Int, Int.natCast_one, Int.natCast_zero, Int.natCast_add, reduceCtorEq, t6, t7, t3, t8, hi, hl2, Tk.take hx, hal, show i * 4 + 4 ≤ A.length * 4 by omega, Tk.cells]
    refine (f90_ok x hxv _ (hG.mono (hp.trans (List.prefix_append _ _)))).mono ?_
    rintro _ ρ1 ⟨rfl, hp1⟩
    have hpp : σ <+: ρ1 := (hp.trans (List.prefix_append _ _)).trans hp1
    obtain ⟨nv', ρ', hap, hp', hV'⟩ := app_str hpp (hV.mono ((List.prefix_append _ _).trans hp1)) (textOf x) (by simp; omega)
    simp only [go_sem, ↓reduceIte, Nat.reduceEqDiff, Nat.reduceAdd, Nat.reduceMul, Nat.reduceLT, Nat.reduceLeDiff, Int.reduceLT, Int.reduceLE, Int.reduceNeg, Int.reduceAdd, Int.reduceSub, Int.reduceMul, Int.reduceToNat, Int.reduceEq, Int.reduceNe, Int.cast_ofNat_Int, Int.natCast_one, Int.natCast_zero, Int.natCast_add, reduceCtorEq, t6, t7, t3, t8, hap, hw]
    refine ⟨k - 1, by omega, i + 1, nv', by omega, hp', rfl, rfl, ?_⟩
    rw [htk]
    exact hV'
  · rename_i hi
    have hii : i = A.length := by omega
    subst hii
    rw [List.take_length] at hV
    have hj := joinT_len hA
    simp only [go_sem, ↓reduceIte, Nat.reduceEqDiff, Nat.reduceAdd, Nat.reduceMul, Nat.reduceLT, Nat.reduceLeDiff, Int.reduceLT, Int.reduceLE, Int.reduceNeg, Int.reduceAdd, Int.reduceSub, Int.reduceMul, Int.reduceToNat, Int.reduceEq, Int.reduceNe, Int.cast_ofNat_Int, Int.natCast_one, Int.natCast_zero, Int.natCast_add, reduceCtorEq, t6, t7, t3, t8]
    refine (f91_ok (A.map textOf) [32] nv _ hV.ts (by simp; omega) (by unfold joinT at hj; omega)).mono ?_
    rintro _ _ ⟨rfl, rfl⟩
    simp only [go_sem, ↓reduceIte, Nat.reduceEqDiff, Nat.reduceAdd, Nat.reduceMul, Nat.reduceLT, Nat.reduceLeDiff, Int.reduceLT, Int.reduceLE, Int.reduceNeg, Int.reduceAdd, Int.reduceSub, Int.reduceMul, Int.reduceToNat, Int.reduceEq, Int.reduceNe, Int.cast_ofNat_Int, Int.natCast_one, Int.natCast_zero, Int.natCast_add, reduceCtorEq]
    exact ⟨rfl, hp⟩

/-- What token.Join answers. -/
def joinF (A : List Tk) : List UInt8 × Int × Int :=
  if 4000 < A.length then ([], 2, -1) else match A.findIdx? (fun x => !validT x) with
    | some i => ([], 5, (i : Int))
    | none => if 8000 < (joinT A).length then ([], 10, -2) else (joinT A, 0, 0)
theorem joinF_long {A : List Tk} (h : 4000 < A.length) : joinF A = ([], 2, -1) := if_pos h
theorem joinF_bad {A : List Tk} {i : Nat} {x : Tk} (h : ¬ 4000 < A.length) (hx : A[i]? = some x) (hv : validT x = false) (hb : ∀ y ∈ A.take i, validT y = true) : joinF A = ([], 5, (i : Int)) := by
  have : A.findIdx? (fun x => !validT x) = some i := by
    obtain ⟨hi, rfl⟩ := List.getElem?_eq_some_iff.1 hx
    rw [List.findIdx?_eq_some_iff_getElem]
    refine ⟨hi, by simp [hv], fun j hj => ?_⟩
    have := hb A[j] (List.mem_of_getElem? (i := j) (by rw [List.getElem?_take, if_pos hj, List.getElem?_eq_getElem]))
    simp [this]
  rw [joinF, if_neg h, this]
theorem joinF_all {A : List Tk} (h : ¬ 4000 < A.length) (hv : ∀ y ∈ A, validT y = true) : joinF A = if 8000 < (joinT A).length then ([], 10, -2) else (joinT A, 0, 0) := by
  have : A.findIdx? (fun x => !validT x) = none := by
    rw [List.findIdx?_eq_none_iff]
    intro x hx
    simp [hv x hx]
  rw [joinF, if_neg h, this]
theorem joinF_zero {A : List Tk} (h : (joinF A).2.1 = 0) : A.length ≤ 4000 ∧ (∀ y ∈ A, validT y = true) ∧ (joinT A).length ≤ 8000 ∧ joinF A = (joinT A, 0, 0) := by
  unfold joinF at *
  split at h
  · simp at h
  · rename_i h1
    rw [if_neg h1]
    split at h
    · simp at h
    · rename_i h2
      split at h
      · simp at h
      · rename_i h3
        rw [if_neg h3]
        refine ⟨by omega, fun y hy => ?_, by omega, rfl⟩
        rw [List.findIdx?_eq_none_iff] at h2
        simpa using h2 y hy
set_option maxHeartbeats 4000000 in
theorem f35_ok (A : List Tk) (n c : Nat) (ow : Bool) (sz : Nat) (σ : Heap) (hl : look σ n = some ⟨A.flatMap Tk.cells, ow, sz⟩) (ht : ∀ x ∈ A, x.text.length ≤ 140737488351232) (hz : A.length ≤ 140737488351232) (hG : GP σ) :
    CW Tryd.prog XT 35 [.slice (some ⟨n, 0, none⟩) A.length c] σ fun v σ' => v = .tuple #[.string (str (joinF A).1), faultV (joinF A).2] ∧ σ <+: σ' := by
  refine cw_in Tryd.func35 rfl Tryd.ntmps35 (rs := [.tmp 2, .cell 3 26]) rfl (by kernel_rfl) (by exact Nat.le_of_ble_eq_true rfl) ?_
  simp only [go_sem, ↓reduceIte, Nat.reduceEqDiff, Nat.reduceAdd, Nat.reduceMul, Nat.reduceLT, Nat.reduceLeDiff, Int.reduceLT, Int.reduceLE, Int.reduceNeg, Int.reduceAdd, Int.reduceSub, Int.reduceMul, Int.reduceToNat, Int.reduceEq, Int.reduceNe, Int.cast_ofNat_Int, Int.natCast_one, Int.natCast_zero, Int.natCast_add, reduceCtorEq]
  have hpre : σ <+: σ ++ [some (⟨[.int .i64 0, .int .i64 0], true, 0⟩ : Blk)] := List.prefix_append _ _
  have h3 : look (σ ++ [some ⟨[.int .i64 0, .int .i64 0], true, 0⟩]) σ.length = some ⟨[.int .i64 0, .int .i64 0], true, 0⟩ := by rw [look_app_new, look_zero]
  have h3l := look_lt h3
  by_cases hlen : 4000 < A.length
  · have hli : (4000 : Int) < (A.length : Int) := by omega
    rw [joinF_long hlen]
    simp only [go_sem, ↓reduceIte, Nat.reduceEqDiff, Nat.reduceAdd, Nat.reduceMul, Nat.reduceLT, Nat.reduceLeDiff, Int.reduceLT, Int.reduceLE, Int.reduceNeg, Int.reduceAdd, Int.reduceSub, Int.reduceMul, Int.reduceToNat, Int.reduceEq, Int.reduceNe, Int.cast_ofNat_Int, Int.natCast_one, Int.natCast_zero, Int.natCast_add, reduceCtorEq, hli, h3, faultV]
    exact List.prefix_append _ _
  · have hli : ¬ (4000 : Int) < (A.length : Int) := by omega
    simp only [go_sem, ↓reduceIte, Nat.reduceEqDiff, Nat.reduceAdd, Nat.reduceMul, Nat.reduceLT, Nat.reduceLeDiff, Int.reduceLT, Int.reduceLE, Int.reduceNeg, Int.reduceAdd, Int.reduceSub, Int.reduceMul, Int.reduceToNat, Int.reduceEq, Int.reduceNe, Int.cast_ofNat_Int, Int.natCast_one, Int.natCast_zero, Int.natCast_add, reduceCtorEq, hli]
    generalize σ ++ [some (⟨[.int .i64 0, .int .i64 0], true, 0⟩ : Blk)] = σ1 at *
    refine LW_run (fun k T ρ => ∃ i : Nat, i + k = A.length ∧ σ1 <+: ρ ∧ T 0 = .slice (some ⟨n, 0, none⟩) A.length c ∧ T 11 = .slice (some ⟨n, 0, none⟩) A.length c ∧ T 12 = .int .i64 A.length ∧ T 13 = .int .i64 i ∧ T 3 = .pointer (some ⟨σ.length, 0, none⟩) ∧ ∀ y ∈ A.take i, validT y = true) A.length
      ⟨0, by simp, List.prefix_rfl, rfl, rfl, rfl, rfl, by simp [putT], by simp⟩ ?_
    rintro k T ρ ⟨i, hk, hp, t0, t11, t12, t13, t3, hV⟩
    have hl2 := look_prefix (hpre.trans hp) hl
    have hal := Tk.len A
    have h3r := look_prefix hp h3
    have h3rl := look_lt h3r
    simp only [go_sem, ↓reduceIte, Nat.reduceEqDiff, Nat.reduceAdd, Nat.reduceMul, Nat.reduceLT, Nat.reduceLeDiff, Int.reduceLT, Int.reduceLE, Int.reduceNeg, Int.reduceAdd, Int.reduceSub, Int.reduceMul, Int.reduceToNat, Int.reduceEq, Int.reduceNe, Int.cast_ofNat_Int, Int.natCast_one, Int.natCast_zero, Int.natCast_add, reduceCtorEq, t0, t3, t11, t12, t13]
    refine fork_dec (fun _ => ?_) (fun _ => ?_)
    · rename_i hi
      obtain ⟨x, hx⟩ : ∃ x, A[i]? = some x := ⟨_, List.getElem?_eq_getElem (by omega)⟩
      have hw : IntKind.i64.wrap ((i : Int) + 1) = (i : Int) + 1 := wrap64 (by omega)
      simp only [go_sem, ↓reduceIte, Nat.reduceEqDiff, Nat.reduceAdd, Nat.reduceMul, Nat.reduceLT, Nat.reduceLeDiff, Int.reduceLT, Int.reduceLE, Int.reduceNeg, Int.reduceAdd, Int.reduceSub, Int.reduceMul, Int.reduceToNat, Int.reduceEq, Int.reduceNe, Int.cast_ofNat_Int, Int.natCast_one, Int.natCast_zero, Int.natCast_add, reduceCtorEq, t0, t3, t11, t12, t13, hi, hl2, Tk.take hx, hal, show i * 4 + 4 ≤ A.length * 4 by omega, Tk.cells]
      refine (CW.wider xl_xt (f46_ok x (ht x (List.mem_of_getElem? hx)) _)).mono ?_
      rintro _ ρ1 ⟨rfl, hp1⟩
      have hq := (hp.trans (List.prefix_append _ _)).trans hp1
      have h3q := look_prefix hq h3
      have h3ql := look_lt h3q
      cases hv : validT x with
      | true =>
        simp only [go_sem, ↓reduceIte, Nat.reduceEqDiff, Nat.reduceAdd, Nat.reduceMul, Nat.reduceLT, Nat.reduceLeDiff, Int.reduceLT, Int.reduceLE, Int.reduceNeg, Int.reduceAdd, Int.reduceSub, Int.reduceMul, Int.reduceToNat, Int.reduceEq, Int.reduceNe, Int.cast_ofNat_Int, Int.natCast_one, Int.natCast_zero, Int.natCast_add, reduceCtorEq, t0, t3, t11, t12, t13, hw, hv]
        refine ⟨k - 1, by omega, i + 1, by omega, hq, rfl, fun y hy => ?_⟩
        rw [List.take_add_one, hx] at hy
        rcases List.mem_append.1 hy with hy | hy
        · exact hV y hy
        · simp at hy; subst hy; exact hv
      | false =>
        rw [joinF_bad hlen hx hv hV]
        simp only [go_sem, ↓reduceIte, Nat.reduceEqDiff, Nat.reduceAdd, Nat.reduceMul, Nat.reduceLT, Nat.reduceLeDiff, Int.reduceLT, Int.reduceLE, Int.reduceNeg, Int.reduceAdd, Int.reduceSub, Int.reduceMul, Int.reduceToNat, Int.reduceEq, Int.reduceNe, Int.cast_ofNat_Int, Int.natCast_one, Int.natCast_zero, Int.natCast_add, reduceCtorEq, t0, t3, t11, t12, t13, hv, h3q, look_set h3ql, faultV]
        exact prefix_set (hpre.trans hq) (Nat.le_refl _)
    · rename_i hi
      have hii : i = A.length := by omega
      subst hii
      rw [List.take_length] at hV
      simp only [go_sem, ↓reduceIte, Nat.reduceEqDiff, Nat.reduceAdd, Nat.reduceMul, Nat.reduceLT, Nat.reduceLeDiff, Int.reduceLT, Int.reduceLE, Int.reduceNeg, Int.reduceAdd, Int.reduceSub, Int.reduceMul, Int.reduceToNat, Int.reduceEq, Int.reduceNe, Int.cast_ofNat_Int, Int.natCast_one, Int.natCast_zero, Int.natCast_add, reduceCtorEq, t0, t3, t11, t12, t13]
      refine (f60_ok A n c ow sz _ hl2 hV (by omega) (hG.mono (hpre.trans hp))).mono ?_
      rintro _ ρ1 ⟨rfl, hp1⟩
      have h3q := look_prefix (hp.trans hp1) h3
      have h3ql := look_lt h3q
      rw [joinF_all hlen hV]
      by_cases h8 : 8000 < (joinT A).length
      · have h8i : (8000 : Int) < ((joinT A).length : Int) := by omega
        simp only [go_sem, ↓reduceIte, Nat.reduceEqDiff, Nat.reduceAdd, Nat.reduceMul, Nat.reduceLT, Nat.reduceLeDiff, Int.reduceLT, Int.reduceLE, Int.reduceNeg, Int.reduceAdd, Int.reduceSub, Int.reduceMul, Int.reduceToNat, Int.reduceEq, Int.reduceNe, Int.cast_ofNat_Int, Int.natCast_one, Int.natCast_zero, Int.natCast_add, reduceCtorEq, t0, t3, t11, t12, t13, h8, h8i, h3q, look_set h3ql, faultV]
        exact prefix_set (hpre.trans (hp.trans hp1)) (Nat.le_refl _)
      · have h8i : ¬ (8000 : Int) < ((joinT A).length : Int) := by omega
        simp only [go_sem, ↓reduceIte, Nat.reduceEqDiff, Nat.reduceAdd, Nat.reduceMul, Nat.reduceLT, Nat.reduceLeDiff, Int.reduceLT, Int.reduceLE, Int.reduceNeg, Int.reduceAdd, Int.reduceSub, Int.reduceMul, Int.reduceToNat, Int.reduceEq, Int.reduceNe, Int.cast_ofNat_Int, Int.natCast_one, Int.natCast_zero, Int.natCast_add, reduceCtorEq, t0, t3, t11, t12, t13, h8, h8i, h3q, look_set h3ql, faultV]
        exact prefix_set (hpre.trans (hp.trans hp1)) (Nat.le_refl _)
/-- The reference's text of tokens, as far as it has come. -/
theorem joinT_step {A : List Tk} {i : Nat} {x : Tk} (hx : A[i]? = some x) : joinT (A.take (i + 1)) = if i = 0 then textOf x else joinT (A.take i) ++ (32 :: textOf x) := by
  have hi := (List.getElem?_eq_some_iff.1 hx).1
  rw [joinT, List.take_add_one, hx, List.map_append, Option.toList_some, List.map_cons, List.map_nil, join_snoc]
  by_cases h : i = 0
  · subst h
    simp
  · rw [if_neg h, if_neg (by intro h2; have := congrArg List.length h2; simp at this; rcases this with h3 | h3; exact h h3; rw [h3] at hi; simp at hi)]
    rfl
set_option maxHeartbeats 4000000 in
theorem f36_ok (X : Ext) (A : List Tk) (n c : Nat) (ow : Bool) (sz : Nat) (σ : Heap) (hl : look σ n = some ⟨A.flatMap Tk.cells, ow, sz⟩) (hA : ∀ x ∈ A, validT x = true) (hn : A.length ≤ 4000) :
    CW Tryd.prog X 36 [.slice (some ⟨n, 0, none⟩) A.length c] σ fun v σ' => v = .string (str (joinT A)) ∧ σ <+: σ' := by
  refine cw_in Tryd.func36 rfl Tryd.ntmps36 (rs := [.tmp 2]) rfl (by kernel_rfl) (by exact Nat.le_of_ble_eq_true rfl) ?_
  simp only [go_sem, ↓reduceIte, Nat.reduceEqDiff, Nat.reduceAdd, Nat.reduceMul, Nat.reduceLT, Nat.reduceLeDiff, Int.reduceLT, Int.reduceLE, Int.reduceNeg, Int.reduceAdd, Int.reduceSub, Int.reduceMul, Int.reduceToNat, Int.reduceEq, Int.reduceNe, Int.cast_ofNat_Int, Int.natCast_one, Int.natCast_zero, Int.natCast_add, reduceCtorEq]
  refine LW_run (fun k T ρ => ∃ i : Nat, i + k = A.length ∧ σ <+: ρ ∧ T 0 = .slice (some ⟨n, 0, none⟩) A.length c ∧ T 3 = .string (str (joinT (A.take i))) ∧ T 4 = .int .i64 i) A.length
    ⟨0, by simp, List.prefix_rfl, rfl, by simp [joinT, Lib.join_nil, putT], rfl⟩ ?_
  rintro k T ρ ⟨i, hk, hp, t0, t3, t4⟩
  have hl2 := look_prefix hp hl
  have hal := Tk.len A
  simp only [go_sem, ↓reduceIte, Nat.reduceEqDiff, Nat.reduceAdd, Nat.reduceMul, Nat.reduceLT, Nat.reduceLeDiff, Int.reduceLT, Int.reduceLE, Int.reduceNeg, Int.reduceAdd, Int.reduceSub, Int.reduceMul, Int.reduceToNat, Int.reduceEq, Int.reduceNe, Int.cast_ofNat_Int, Int.natCast_one, Int.natCast_zero, Int.natCast_add, reduceCtorEq, t0, t3, t4]
  refine fork_dec (fun _ => ?_) (fun _ => ?_)
  · rename_i hi
    obtain ⟨x, hx⟩ : ∃ x, A[i]? = some x := ⟨_, List.getElem?_eq_getElem (by omega)⟩
    have hxv := hA x (List.mem_of_getElem? hx)
    have hw : IntKind.i64.wrap ((i : Int) + 1) = (i : Int) + 1 := wrap64 (by omega)
    have hst := joinT_step hx
    have hxl := valid_len hxv
    have hjl := joinT_len (A := A.take i) (fun y hy => hA y (List.mem_of_mem_take hy))
    have hti : (A.take i).length ≤ 4000 := by simp; omega
    have hvv := valid_val hxv
    by_cases h0 : i = 0
    · have hj0 : joinT (A.take i) = [] := by subst h0; rfl
      rw [if_pos h0] at hst
      rw [hj0] at t3
      simp only [go_sem, ↓reduceIte, Nat.reduceEqDiff, Nat.reduceAdd, Nat.reduceMul, Nat.reduceLT, Nat.reduceLeDiff, Int.reduceLT, Int.reduceLE, Int.reduceNeg, Int.reduceAdd, Int.reduceSub, Int.reduceMul, Int.reduceToNat, Int.reduceEq, Int.reduceNe, Int.cast_ofNat_Int, Int.natCast_one, Int.natCast_zero, Int.natCast_add, reduceCtorEq, t0, t3, t4, hi, hl2, show ¬ (0 : Int) < (i : Int) by omega, Tk.take hx, hal, show i * 4 + 4 ≤ A.length * 4 by omega, Tk.cells]
      refine (f49_ok X x (by omega) _).mono ?_
      rintro _ ρ1 ⟨rfl, hp1⟩
      simp only [go_sem, ↓reduceIte, Nat.reduceEqDiff, Nat.reduceAdd, Nat.reduceMul, Nat.reduceLT, Nat.reduceLeDiff, Int.reduceLT, Int.reduceLE, Int.reduceNeg, Int.reduceAdd, Int.reduceSub, Int.reduceMul, Int.reduceToNat, Int.reduceEq, Int.reduceNe, Int.cast_ofNat_Int, Int.natCast_one, Int.natCast_zero, Int.natCast_add, reduceCtorEq, t0, t3, t4, hw, sadd (a := []) (b := textOf x) (by simp; omega)]
      refine ⟨k - 1, by omega, i + 1, by omega, hp.trans hp1, ?_⟩
      rw [hst]
      exact ⟨rfl, rfl⟩
    · rw [if_neg h0] at hst
      have hs2 := sadd (P := Tryd.prog) (t := 9) (a := joinT (A.take i)) (b := [32]) (by simp; omega)
      have hs3 := sadd (P := Tryd.prog) (t := 9) (a := joinT (A.take i) ++ [32]) (b := textOf x) (by simp; omega)
      rw [show Value.string (str [32]) = Value.string ⟨#[32]⟩ from rfl] at hs2
      simp only [go_sem, ↓reduceIte, Nat.reduceEqDiff, Nat.reduceAdd, Nat.reduceMul, Nat.reduceLT, Nat.reduceLeDiff, Int.reduceLT, Int.reduceLE, Int.reduceNeg, Int.reduceAdd, Int.reduceSub, Int.reduceMul, Int.reduceToNat, Int.reduceEq, Int.reduceNe, Int.cast_ofNat_Int, Int.natCast_one, Int.natCast_zero, Int.natCast_add, reduceCtorEq, t0, t3, t4, hi, hl2, show (0 : Int) < (i : Int) by omega, hs2, Tk.take hx, hal, show i * 4 + 4 ≤ A.length * 4 by omega, Tk.cells]
      refine (f49_ok X x (by omega) _).mono ?_
      rintro _ ρ1 ⟨rfl, hp1⟩
      simp only [go_sem, ↓reduceIte, Nat.reduceEqDiff, Nat.reduceAdd, Nat.reduceMul, Nat.reduceLT, Nat.reduceLeDiff, Int.reduceLT, Int.reduceLE, Int.reduceNeg, Int.reduceAdd, Int.reduceSub, Int.reduceMul, Int.reduceToNat, Int.reduceEq, Int.reduceNe, Int.cast_ofNat_Int, Int.natCast_one, Int.natCast_zero, Int.natCast_add, reduceCtorEq, t0, t3, t4, hw, hs3]
      refine ⟨k - 1, by omega, i + 1, by omega, hp.trans hp1, ?_⟩
      rw [hst]
      exact ⟨rfl, rfl⟩
  · rename_i hi
    have hii : i = A.length := by omega
    subst hii
    rw [List.take_length] at t3
    simp only [go_sem, ↓reduceIte, Nat.reduceEqDiff, Nat.reduceAdd, Nat.reduceMul, Nat.reduceLT, Nat.reduceLeDiff, Int.reduceLT, Int.reduceLE, Int.reduceNeg, Int.reduceAdd, Int.reduceSub, Int.reduceMul, Int.reduceToNat, Int.reduceEq, Int.reduceNe, Int.cast_ofNat_Int, Int.natCast_one, Int.natCast_zero, Int.natCast_add, reduceCtorEq, t0, t3, t4]
    exact hp
end Go.Proofs.YtkgdkommahgakaaDoor.Abs

/- token.next (f61) and token.Split (f37). -/
namespace Go.Proofs.YtkgdkommahgakaaDoor.Abs
open Go Go.RowKit Gram
set_option linter.unusedVariables false
set_option linter.unusedSimpArgs false
set_option maxRecDepth 100000

/-- The token at the beginning, and how many bytes it takes (0: none). -/
def nextT (l : List UInt8) : Tk × Nat :=
  if signAt l ≠ [] then (⟨3, signAt l, 0, 0⟩, (signAt l).length)
  else if (den (l.takeWhile nbB)).2 = true ∧ 0 < (l.takeWhile nbB).length then (⟨2, [], (den (l.takeWhile nbB)).1, 0⟩, (l.takeWhile nbB).length)
  else if nameOk (l.takeWhile nbB) = true then (⟨1, l.takeWhile nbB, 0, 0⟩, (l.takeWhile nbB).length) else (⟨0, [], 0, 0⟩, 0)
theorem signAt_le (l : List UInt8) : (signAt l).length ≤ l.length := by
  unfold signAt
  split
  · simp; omega
  · split
    · simp; omega
    · simp
theorem takeWhile_le (p : UInt8 → Bool) (l : List UInt8) : (l.takeWhile p).length ≤ l.length := (List.takeWhile_prefix p).length_le
theorem nextT_le (l : List UInt8) : (nextT l).2 ≤ l.length := by
  have h1 := signAt_le l
  have h2 := takeWhile_le nbB l
  unfold nextT
  repeat' split
  all_goals first | exact h1 | exact h2 | exact Nat.zero_le _
theorem takeWhile_at {p : UInt8 → Bool} {l : List UInt8} {i : Nat} (h1 : (l.take i).all p = true) (h2 : ∀ b, l[i]? = some b → p b = false) : l.takeWhile p = l.take i := by
  induction l generalizing i with
  | nil => simp
  | cons c l ih =>
    cases i with
    | zero =>
      have := h2 c rfl
      simp [this]
    | succ i =>
      simp only [List.take_succ_cons, List.all_cons, Bool.and_eq_true] at h1
      rw [List.takeWhile_cons, if_pos h1.1, List.take_succ_cons, ih h1.2 (fun b hb => h2 b (by simpa using hb))]
set_option maxHeartbeats 4000000 in
theorem f61_ok (l : List UInt8) (hl : l.length ≤ 140737488351232) (σ : Heap) (hG : GE σ) : CW Tryd.prog XT 61 [.string (str l)] σ fun v σ' => v = .tuple #[.agg (nextT l).1.cells.toArray, .int .i64 (nextT l).2] ∧ σ <+: σ' := by
  refine cw_in Tryd.func61 rfl Tryd.ntmps61 (rs := [.cell 2 31, .tmp 3]) rfl (by kernel_rfl) (by exact Nat.le_of_ble_eq_true rfl) ?_
  simp only [go_sem, ↓reduceIte, Nat.reduceEqDiff, Nat.reduceAdd, Nat.reduceMul, Nat.reduceLT, Nat.reduceLeDiff, Int.reduceLT, Int.reduceLE, Int.reduceNeg, Int.reduceAdd, Int.reduceSub, Int.reduceMul, Int.reduceToNat, Int.reduceEq, Int.reduceNe, Int.cast_ofNat_Int, Int.natCast_one, Int.natCast_zero, Int.natCast_add, reduceCtorEq]
  refine (CW.wider xl_xt (f69_ok l hl _)).mono ?_
  rintro _ _ ⟨rfl, rfl⟩
  have hpre : σ <+: σ ++ [some (⟨[.int .i64 0, .string ⟨#[]⟩, .int .i64 0, .int .i64 0], true, 0⟩ : Blk)] := List.prefix_append _ _
  have h2 : look (σ ++ [some ⟨[.int .i64 0, .string ⟨#[]⟩, .int .i64 0, .int .i64 0], true, 0⟩]) σ.length = some ⟨[.int .i64 0, .string ⟨#[]⟩, .int .i64 0, .int .i64 0], true, 0⟩ := by rw [look_app_new, look_zero]
  have h2l := look_lt h2
  by_cases hsg : signAt l = []
  · simp only [go_sem, ↓reduceIte, Nat.reduceEqDiff, Nat.reduceAdd, Nat.reduceMul, Nat.reduceLT, Nat.reduceLeDiff, Int.reduceLT, Int.reduceLE, Int.reduceNeg, Int.reduceAdd, Int.reduceSub, Int.reduceMul, Int.reduceToNat, Int.reduceEq, Int.reduceNe, Int.cast_ofNat_Int, Int.natCast_one, Int.natCast_zero, Int.natCast_add, reduceCtorEq, hsg]
    generalize σ ++ [some (⟨[.int .i64 0, .string ⟨#[]⟩, .int .i64 0, .int .i64 0], true, 0⟩ : Blk)] = σ1 at *
    refine LW_run (fun k T ρ => ∃ i : Nat, i + k = l.length ∧ σ1 = ρ ∧ T 0 = .string (str l) ∧ T 5 = .int .i64 i ∧ T 2 = .pointer (some ⟨σ.length, 0, none⟩) ∧ (l.take i).all nbB = true) l.length
      ⟨0, by simp, rfl, rfl, rfl, by simp [putT], by simp⟩ ?_
    rintro k T _ ⟨i, hk, rfl, t0, t5, t2, hv⟩
    have hle : (i : Int) ≤ (l.length : Int) := by omega
    by_cases hi : i < l.length
    · obtain ⟨b, hb⟩ : ∃ b, l[i]? = some b := ⟨_, List.getElem?_eq_getElem hi⟩
      have hii : (i : Int) < (l.length : Int) := by omega
      have hw : IntKind.i64.wrap ((i : Int) + 1) = (i : Int) + 1 := wrap64 (by omega)
      simp only [go_sem, ↓reduceIte, Nat.reduceEqDiff, Nat.reduceAdd, Nat.reduceMul, Nat.reduceLT, Nat.reduceLeDiff, Int.reduceLT, Int.reduceLE, Int.reduceNeg, Int.reduceAdd, Int.reduceSub, Int.reduceMul, Int.reduceToNat, Int.reduceEq, Int.reduceNe, Int.cast_ofNat_Int, Int.natCast_one, Int.natCast_zero, Int.natCast_add, reduceCtorEq, t0, t5, t2, hii, hb]
      refine (f85_ok XT (b.toNat : Int) _).mono ?_
      rintro _ _ ⟨rfl, rfl⟩
      cases hbb : nb (b.toNat : Int) with
      | true =>
        simp only [go_sem, ↓reduceIte, Nat.reduceEqDiff, Nat.reduceAdd, Nat.reduceMul, Nat.reduceLT, Nat.reduceLeDiff, Int.reduceLT, Int.reduceLE, Int.reduceNeg, Int.reduceAdd, Int.reduceSub, Int.reduceMul, Int.reduceToNat, Int.reduceEq, Int.reduceNe, Int.cast_ofNat_Int, Int.natCast_one, Int.natCast_zero, Int.natCast_add, reduceCtorEq, t0, t5, t2, hii, hb, hbb, hw]
        refine ⟨k - 1, by omega, i + 1, ?_⟩
        (repeat' (first | exact rfl | apply And.intro))
        all_goals first | omega | exact take_all hb hv hbb
      | false =>
        simp only [go_sem, ↓reduceIte, Nat.reduceEqDiff, Nat.reduceAdd, Nat.reduceMul, Nat.reduceLT, Nat.reduceLeDiff, Int.reduceLT, Int.reduceLE, Int.reduceNeg, Int.reduceAdd, Int.reduceSub, Int.reduceMul, Int.reduceToNat, Int.reduceEq, Int.reduceNe, Int.cast_ofNat_Int, Int.natCast_one, Int.natCast_zero, Int.natCast_add, reduceCtorEq, t0, t5, t2, hii, hb, hbb, Nat.sub_zero, hle]
        have hfb : ∀ c, l[i]? = some c → nbB c = false := fun c hc => by
          rw [hb] at hc
          obtain rfl := Option.some.inj hc
          exact hbb
        have hw9 := takeWhile_at hv hfb
        have hwl : (l.takeWhile nbB).length = i := by rw [hw9, List.length_take]; omega
        refine (f92_ok (l.take i) (by simp; omega) _ (hG.mono hpre)).mono ?_
        rintro _ _ ⟨rfl, rfl⟩
        obtain ⟨n1, n2⟩ := num_den (l.take i)
        have hnx : nextT l = if (den (l.take i)).2 = true ∧ 0 < i then (⟨2, [], (den (l.take i)).1, 0⟩, i) else if nameOk (l.take i) = true then (⟨1, l.take i, 0, 0⟩, i) else (⟨0, [], 0, 0⟩, 0) := by
          rw [nextT, if_neg (by simp [hsg]), hwl, hw9]
        cases hno : numOk (l.take i) with
        | true =>
          have hn2 := n2 hno
          rw [hno] at n1
          by_cases h0 : 0 < i
          · have h0i : (0 : Int) < (i : Int) := by omega
            rw [if_pos ⟨n1.symm, h0⟩] at hnx
            rw [hnx]
            simp only [go_sem, ↓reduceIte, Nat.reduceEqDiff, Nat.reduceAdd, Nat.reduceMul, Nat.reduceLT, Nat.reduceLeDiff, Int.reduceLT, Int.reduceLE, Int.reduceNeg, Int.reduceAdd, Int.reduceSub, Int.reduceMul, Int.reduceToNat, Int.reduceEq, Int.reduceNe, Int.cast_ofNat_Int, Int.natCast_one, Int.natCast_zero, Int.natCast_add, reduceCtorEq, t0, t5, t2, hno, h0i, h2, hn2, Tk.cells, hle, look_set h2l]
            exact prefix_set hpre (Nat.le_refl _)
          · have h0i : ¬ (0 : Int) < (i : Int) := by omega
            obtain rfl : i = 0 := by omega
            exact absurd hno (by simp [numOk, numP, pre0x, puE])
        | false =>
          rw [hno] at n1
          rw [if_neg (fun h => by rw [← n1] at h; exact absurd h.1 (by simp))] at hnx
          simp only [go_sem, ↓reduceIte, Nat.reduceEqDiff, Nat.reduceAdd, Nat.reduceMul, Nat.reduceLT, Nat.reduceLeDiff, Int.reduceLT, Int.reduceLE, Int.reduceNeg, Int.reduceAdd, Int.reduceSub, Int.reduceMul, Int.reduceToNat, Int.reduceEq, Int.reduceNe, Int.cast_ofNat_Int, Int.natCast_one, Int.natCast_zero, Int.natCast_add, reduceCtorEq, t0, t5, t2, hno, hle, Nat.sub_zero]
          refine (f55_ok XT (l.take i) (by simp; omega) _).mono ?_
          rintro _ _ ⟨rfl, rfl⟩
          cases hnm : nameOk (l.take i) with
          | true =>
            rw [if_pos hnm] at hnx
            rw [hnx]
            simp only [go_sem, ↓reduceIte, Nat.reduceEqDiff, Nat.reduceAdd, Nat.reduceMul, Nat.reduceLT, Nat.reduceLeDiff, Int.reduceLT, Int.reduceLE, Int.reduceNeg, Int.reduceAdd, Int.reduceSub, Int.reduceMul, Int.reduceToNat, Int.reduceEq, Int.reduceNe, Int.cast_ofNat_Int, Int.natCast_one, Int.natCast_zero, Int.natCast_add, reduceCtorEq, t0, t5, t2, hnm, h2, hle, Nat.sub_zero, Tk.cells, look_set h2l]
            exact prefix_set hpre (Nat.le_refl _)
          | false =>
            rw [if_neg (by simp [hnm])] at hnx
            rw [hnx]
            simp only [go_sem, ↓reduceIte, Nat.reduceEqDiff, Nat.reduceAdd, Nat.reduceMul, Nat.reduceLT, Nat.reduceLeDiff, Int.reduceLT, Int.reduceLE, Int.reduceNeg, Int.reduceAdd, Int.reduceSub, Int.reduceMul, Int.reduceToNat, Int.reduceEq, Int.reduceNe, Int.cast_ofNat_Int, Int.natCast_one, Int.natCast_zero, Int.natCast_add, reduceCtorEq, t0, t5, t2, hnm, h2, hle, Nat.sub_zero, Tk.cells, look_set h2l]
            exact prefix_set hpre (Nat.le_refl _)
    · have hii : ¬ (i : Int) < (l.length : Int) := by omega
      simp only [go_sem, ↓reduceIte, Nat.reduceEqDiff, Nat.reduceAdd, Nat.reduceMul, Nat.reduceLT, Nat.reduceLeDiff, Int.reduceLT, Int.reduceLE, Int.reduceNeg, Int.reduceAdd, Int.reduceSub, Int.reduceMul, Int.reduceToNat, Int.reduceEq, Int.reduceNe, Int.cast_ofNat_Int, Int.natCast_one, Int.natCast_zero, Int.natCast_add, reduceCtorEq, t0, t5, t2, hii, Nat.sub_zero, hle]
      have hfb : ∀ c, l[i]? = some c → nbB c = false := fun c hc => absurd (List.getElem?_eq_some_iff.1 hc).1 hi
      have hw9 := takeWhile_at hv hfb
      have hwl : (l.takeWhile nbB).length = i := by rw [hw9, List.length_take]; omega
      refine (f92_ok (l.take i) (by simp; omega) _ (hG.mono hpre)).mono ?_
      rintro _ _ ⟨rfl, rfl⟩
      obtain ⟨n1, n2⟩ := num_den (l.take i)
      have hnx : nextT l = if (den (l.take i)).2 = true ∧ 0 < i then (⟨2, [], (den (l.take i)).1, 0⟩, i) else if nameOk (l.take i) = true then (⟨1, l.take i, 0, 0⟩, i) else (⟨0, [], 0, 0⟩, 0) := by
        rw [nextT, if_neg (by simp [hsg]), hwl, hw9]
      cases hno : numOk (l.take i) with
      | true =>
        have hn2 := n2 hno
        rw [hno] at n1
        by_cases h0 : 0 < i
        · have h0i : (0 : Int) < (i : Int) := by omega
          rw [if_pos ⟨n1.symm, h0⟩] at hnx
          rw [hnx]
          simp only [go_sem, ↓reduceIte, Nat.reduceEqDiff, Nat.reduceAdd, Nat.reduceMul, Nat.reduceLT, Nat.reduceLeDiff, Int.reduceLT, Int.reduceLE, Int.reduceNeg, Int.reduceAdd, Int.reduceSub, Int.reduceMul, Int.reduceToNat, Int.reduceEq, Int.reduceNe, Int.cast_ofNat_Int, Int.natCast_one, Int.natCast_zero, Int.natCast_add, reduceCtorEq, t0, t5, t2, hno, h0i, h2, hn2, Tk.cells, hle, look_set h2l]
          exact prefix_set hpre (Nat.le_refl _)
        · have h0i : ¬ (0 : Int) < (i : Int) := by omega
          obtain rfl : i = 0 := by omega
          exact absurd hno (by simp [numOk, numP, pre0x, puE])
      | false =>
        rw [hno] at n1
        rw [if_neg (fun h => by rw [← n1] at h; exact absurd h.1 (by simp))] at hnx
        simp only [go_sem, ↓reduceIte, Nat.reduceEqDiff, Nat.reduceAdd, Nat.reduceMul, Nat.reduceLT, Nat.reduceLeDiff, Int.reduceLT, Int.reduceLE, Int.reduceNeg, Int.reduceAdd, Int.reduceSub, Int.reduceMul, Int.reduceToNat, Int.reduceEq, Int.reduceNe, Int.cast_ofNat_Int, Int.natCast_one, Int.natCast_zero, Int.natCast_add, reduceCtorEq, t0, t5, t2, hno, hle, Nat.sub_zero]
        refine (f55_ok XT (l.take i) (by simp; omega) _).mono ?_
        rintro _ _ ⟨rfl, rfl⟩
        cases hnm : nameOk (l.take i) with
        | true =>
          rw [if_pos hnm] at hnx
          rw [hnx]
          simp only [go_sem, ↓reduceIte, Nat.reduceEqDiff, Nat.reduceAdd, Nat.reduceMul, Nat.reduceLT, Nat.reduceLeDiff, Int.reduceLT, Int.reduceLE, Int.reduceNeg, Int.reduceAdd, Int.reduceSub, Int.reduceMul, Int.reduceToNat, Int.reduceEq, Int.reduceNe, Int.cast_ofNat_Int, Int.natCast_one, Int.natCast_zero, Int.natCast_add, reduceCtorEq, t0, t5, t2, hnm, h2, hle, Nat.sub_zero, Tk.cells, look_set h2l]
          exact prefix_set hpre (Nat.le_refl _)
        | false =>
          rw [if_neg (by simp [hnm])] at hnx
          rw [hnx]
          simp only [go_sem, ↓reduceIte, Nat.reduceEqDiff, Nat.reduceAdd, Nat.reduceMul, Nat.reduceLT, Nat.reduceLeDiff, Int.reduceLT, Int.reduceLE, Int.reduceNeg, Int.reduceAdd, Int.reduceSub, Int.reduceMul, Int.reduceToNat, Int.reduceEq, Int.reduceNe, Int.cast_ofNat_Int, Int.natCast_one, Int.natCast_zero, Int.natCast_add, reduceCtorEq, t0, t5, t2, hnm, h2, hle, Nat.sub_zero, Tk.cells, look_set h2l]
          exact prefix_set hpre (Nat.le_refl _)
  · simp only [go_sem, ↓reduceIte, Nat.reduceEqDiff, Nat.reduceAdd, Nat.reduceMul, Nat.reduceLT, Nat.reduceLeDiff, Int.reduceLT, Int.reduceLE, Int.reduceNeg, Int.reduceAdd, Int.reduceSub, Int.reduceMul, Int.reduceToNat, Int.reduceEq, Int.reduceNe, Int.cast_ofNat_Int, Int.natCast_one, Int.natCast_zero, Int.natCast_add, reduceCtorEq, hsg, h2]
    rw [nextT, if_pos hsg]
    simp only [go_sem, ↓reduceIte, Nat.reduceEqDiff, Nat.reduceAdd, Nat.reduceMul, Nat.reduceLT, Nat.reduceLeDiff, Int.reduceLT, Int.reduceLE, Int.reduceNeg, Int.reduceAdd, Int.reduceSub, Int.reduceMul, Int.reduceToNat, Int.reduceEq, Int.reduceNe, Int.cast_ofNat_Int, Int.natCast_one, Int.natCast_zero, Int.natCast_add, reduceCtorEq, Tk.cells]
    exact List.prefix_append _ _

/-- The tokens of a line behind an offset, or the offset of the first byte that begins none. -/
def spF : Nat → Nat → List UInt8 → Nat ⊕ List Tk
  | 0, _, _ => .inr []
  | _ + 1, _, [] => .inr []
  | f + 1, off, b :: r => if b = 59 then .inr [] else if b = 32 ∨ b = 9 then spF f (off + 1) r else
      if (nextT (b :: r)).2 = 0 then .inl off else match spF f (off + (nextT (b :: r)).2) ((b :: r).drop (nextT (b :: r)).2) with
        | .inl e => .inl e
        | .inr L => .inr (⟨(nextT (b :: r)).1.kind, (nextT (b :: r)).1.text, (nextT (b :: r)).1.value, (off : Int)⟩ :: L)
theorem spF_fuel : ∀ (f g off : Nat) (l : List UInt8), l.length < f → l.length < g → spF f off l = spF g off l
  | 0, _, _, _, h, _ => absurd h (Nat.not_lt_zero _)
  | _, 0, _, _, _, h => absurd h (Nat.not_lt_zero _)
  | f + 1, g + 1, off, [], _, _ => rfl
  | f + 1, g + 1, off, b :: r, h1, h2 => by
    simp only [List.length_cons] at h1 h2
    rw [spF, spF]
    by_cases h59 : b = 59
    · rw [if_pos h59, if_pos h59]
    · rw [if_neg h59, if_neg h59]
      by_cases h32 : b = 32 ∨ b = 9
      · rw [if_pos h32, if_pos h32]
        exact spF_fuel f g _ r (by omega) (by omega)
      · rw [if_neg h32, if_neg h32]
        by_cases h0 : (nextT (b :: r)).2 = 0
        · rw [if_pos h0, if_pos h0]
        · rw [if_neg h0, if_neg h0, spF_fuel f g (off + (nextT (b :: r)).2) ((b :: r).drop (nextT (b :: r)).2) (by simp; omega) (by simp; omega)]
def sp (off : Nat) (l : List UInt8) : Nat ⊕ List Tk := spF (l.length + 1) off l
theorem sp_nil {off : Nat} : sp off [] = .inr [] := rfl
theorem sp_semi {off : Nat} {r : List UInt8} : sp off (59 :: r) = .inr [] := by rw [sp, spF, if_pos rfl]
theorem sp_space {off : Nat} {b : UInt8} {r : List UInt8} (h : b = 32 ∨ b = 9) : sp off (b :: r) = sp (off + 1) r := by
  rw [sp, spF, if_neg (by rcases h with rfl | rfl <;> decide), if_pos h]
  rfl
theorem sp_bad {off : Nat} {b : UInt8} {r : List UInt8} (h1 : b ≠ 59) (h2 : ¬ (b = 32 ∨ b = 9)) (h3 : (nextT (b :: r)).2 = 0) : sp off (b :: r) = .inl off := by
  rw [sp, spF, if_neg h1, if_neg h2, if_pos h3]
theorem sp_tok {off : Nat} {b : UInt8} {r : List UInt8} (h1 : b ≠ 59) (h2 : ¬ (b = 32 ∨ b = 9)) (h3 : (nextT (b :: r)).2 ≠ 0) : sp off (b :: r) = match sp (off + (nextT (b :: r)).2) ((b :: r).drop (nextT (b :: r)).2) with
    | .inl e => .inl e
    | .inr L => .inr (⟨(nextT (b :: r)).1.kind, (nextT (b :: r)).1.text, (nextT (b :: r)).1.value, (off : Int)⟩ :: L) := by
  rw [sp, spF, if_neg h1, if_neg h2, if_neg h3, spF_fuel _ (((b :: r).drop (nextT (b :: r)).2).length + 1) _ _ (by simp; omega) (by omega)]
  rfl
def preS (A : List Tk) : Nat ⊕ List Tk → Nat ⊕ List Tk
  | .inl e => .inl e
  | .inr L => .inr (A ++ L)
theorem preS_nil (x : Nat ⊕ List Tk) : preS [] x = x := by cases x <;> rfl
def splitR (l : List UInt8) : List Tk × Int × Int := if 8000 < l.length then ([], 2, -1) else match sp 0 l with
  | .inl e => ([], 1, (e : Int))
  | .inr L => (L, 0, 0)

/-- A row of tokens that was built behind b. -/
def TW (b : Nat) (σ : Heap) (A : List Tk) (v : Value) : Prop := (A = [] ∧ v = .slice none 0 0) ∨ ∃ q c, v = .slice (some ⟨q, 0, none⟩) A.length c ∧ b ≤ q ∧ 0 < A.length ∧ look σ q = some ⟨A.flatMap Tk.cells, true, 4⟩
theorem TW.tv {b : Nat} {σ : Heap} {A : List Tk} {v : Value} (h : TW b σ A v) : TV σ A v := by
  rcases h with h | ⟨q, c, h1, h2, h3, h4⟩
  · exact .inl h
  · exact .inr ⟨q, c, _, h1, h4⟩
theorem TW.mono {b : Nat} {σ σ' : Heap} {A : List Tk} {v : Value} (h : TW b σ A v) (hp : σ <+: σ') : TW b σ' A v := by
  rcases h with h | ⟨q, c, h1, h2, h3, h4⟩
  · exact .inl h
  · exact .inr ⟨q, c, h1, h2, h3, look_prefix hp h4⟩
theorem TW.set {b q : Nat} {σ : Heap} {A : List Tk} {v : Value} {o : Option Blk} (h : TW b σ A v) (hq : q < b) : TW b (σ.set q o) A v := by
  rcases h with h | ⟨q', c, h1, h2, h3, h4⟩
  · exact .inl h
  · exact .inr ⟨q', c, h1, h2, h3, by rw [look_set_ne (by omega)]; exact h4⟩
theorem app_one {b0 : Nat} {σ0 σ : Heap} {A : List Tk} {nv : Value} (hp : σ0 <+: σ) (hb : σ0.length ≤ b0) (hb2 : b0 ≤ σ.length) (h : TW b0 σ A nv) (x : Tk) (hs : A.length ≤ 100000) :
    ∃ nv' σ', aappend Tryd.prog (σ ++ [some ⟨x.cells, true, 4⟩]) #[22, 22] nv (.slice (some ⟨σ.length, 0, none⟩) 1 1) = some (nv', σ') ∧ σ0 <+: σ' ∧ TW b0 σ' (A ++ [x]) nv' ∧ σ.length ≤ σ'.length ∧ ∀ j c, j < b0 → look σ j = some c → look σ' j = some c := by
  have hsrc : asrc (σ ++ [some ⟨x.cells, true, 4⟩]) 4 (.slice (some ⟨σ.length, 0, none⟩) 1 1) = some (1, x.cells) := by
    rw [src_ptr (b := ⟨x.cells, true, 4⟩) (by rw [look_app_new, look_zero]) (by simp [Tk.cells])]
    rfl
  have hl := hp.length_le
  rcases h with ⟨rfl, rfl⟩ | ⟨q, c, rfl, h2, h3, h4⟩
  · rw [an22_22, hsrc, Option.bind_some, if_pos (by simp)]
    refine ⟨_, _, rfl, (hp.trans (List.prefix_append _ _)).trans (List.prefix_append _ _), .inr ⟨_, _, rfl, by simp; omega, by simp, ?_⟩, by simp <;> omega, fun j c hj hc => look_prefix ((List.prefix_append _ _).trans (List.prefix_append _ _)) hc⟩
    rw [look_app_new, look_zero]
    simp
  · have hq := look_lt h4
    have hnl := Tk.len A
    rw [ap22_22, hsrc, Option.bind_some, if_pos (by simp; omega), if_neg (by omega), look_app_lt hq, h4, Option.bind_some, if_pos (by simp [hnl])]
    refine ⟨_, _, rfl, (prefix_set (hp.trans (List.prefix_append _ _)) (by omega)).trans (List.prefix_append _ _), .inr ⟨(σ ++ [some (⟨x.cells, true, 4⟩ : Blk)]).length, A.length + 1 + 1, by simp, by simp; omega, by simp, ?_⟩, by simp; omega, fun j c hj hc => ?_⟩
    · have hh := look_app_new (σ := (σ ++ [some (⟨x.cells, true, 4⟩ : Blk)]).set q none) (l := [some ⟨A.flatMap Tk.cells ++ x.cells, true, 4⟩])
      rw [List.length_set] at hh
      rw [List.drop_zero, hh, look_zero, List.flatMap_append]
      simp
    · have hjl := look_lt hc
      rw [look_app_lt (by simp; omega), look_set_ne (by omega), look_app_lt hjl]
      exact hc
set_option maxHeartbeats 8000000 in
theorem f37_ok (l : List UInt8) (hl : l.length ≤ 9000000000000000000) (σ : Heap) (hG : GE σ) : CW Tryd.prog XT 37 [.string (str l)] σ fun v σ' => (∃ tv, v = .tuple #[tv, faultV (splitR l).2] ∧ TV σ' (splitR l).1 tv) ∧ σ <+: σ' := by
  refine cw_in Tryd.func37 rfl Tryd.ntmps37 (rs := [.tmp 2, .cell 3 26]) rfl (by kernel_rfl) (by exact Nat.le_of_ble_eq_true rfl) ?_
  have b59 : ∀ b : UInt8, ((b.toNat : Int) = 59) = (b = 59) := fun b => u8_eq b 59 (by omega)
  have b59' : ∀ b : UInt8, ((b.toNat : Int) ≠ 59) = (b ≠ 59) := fun b => by rw [ne_eq, b59]
  have b32 : ∀ b : UInt8, ((b.toNat : Int) = 32) = (b = 32) := fun b => u8_eq b 32 (by omega)
  have b9 : ∀ b : UInt8, ((b.toNat : Int) = 9) = (b = 9) := fun b => u8_eq b 9 (by omega)
  simp only [go_sem, ↓reduceIte, Nat.reduceEqDiff, Nat.reduceAdd, Nat.reduceMul, Nat.reduceLT, Nat.reduceLeDiff, Int.reduceLT, Int.reduceLE, Int.reduceNeg, Int.reduceAdd, Int.reduceSub, Int.reduceMul, Int.reduceToNat, Int.reduceEq, Int.reduceNe, Int.cast_ofNat_Int, Int.natCast_one, Int.natCast_zero, Int.natCast_add, reduceCtorEq]
  have hpre : σ <+: σ ++ [some (⟨[.int .i64 0, .int .i64 0], true, 0⟩ : Blk)] := List.prefix_append _ _
  have h3 : look (σ ++ [some ⟨[.int .i64 0, .int .i64 0], true, 0⟩]) σ.length = some ⟨[.int .i64 0, .int .i64 0], true, 0⟩ := by rw [look_app_new, look_zero]
  have h3l := look_lt h3
  by_cases hlen : 8000 < l.length
  · have hli : (8000 : Int) < (l.length : Int) := by omega
    have hR : splitR l = ([], 2, -1) := if_pos hlen
    rw [hR]
    simp only [go_sem, ↓reduceIte, Nat.reduceEqDiff, Nat.reduceAdd, Nat.reduceMul, Nat.reduceLT, Nat.reduceLeDiff, Int.reduceLT, Int.reduceLE, Int.reduceNeg, Int.reduceAdd, Int.reduceSub, Int.reduceMul, Int.reduceToNat, Int.reduceEq, Int.reduceNe, Int.cast_ofNat_Int, Int.natCast_one, Int.natCast_zero, Int.natCast_add, reduceCtorEq, hli, h3, faultV]
    exact ⟨⟨_, rfl, .inl ⟨rfl, rfl⟩⟩, List.prefix_append _ _⟩
  · have hli : ¬ (8000 : Int) < (l.length : Int) := by omega
    have hR : splitR l = match sp 0 l with | .inl e => ([], 1, (e : Int)) | .inr L => (L, 0, 0) := if_neg hlen
    simp only [go_sem, ↓reduceIte, Nat.reduceEqDiff, Nat.reduceAdd, Nat.reduceMul, Nat.reduceLT, Nat.reduceLeDiff, Int.reduceLT, Int.reduceLE, Int.reduceNeg, Int.reduceAdd, Int.reduceSub, Int.reduceMul, Int.reduceToNat, Int.reduceEq, Int.reduceNe, Int.cast_ofNat_Int, Int.natCast_one, Int.natCast_zero, Int.natCast_add, reduceCtorEq, hli]
    have hs1l : σ.length + 1 ≤ (σ ++ [some (⟨[.int .i64 0, .int .i64 0], true, 0⟩ : Blk)]).length := by simp
    generalize σ ++ [some (⟨[.int .i64 0, .int .i64 0], true, 0⟩ : Blk)] = σ1 at *
    refine LW_run (fun k T ρ => ∃ (i : Nat) (A : List Tk) (nv : Value), i + k = l.length ∧ σ1 <+: ρ ∧ T 0 = .string (str l) ∧ T 3 = .pointer (some ⟨σ.length, 0, none⟩) ∧ T 4 = nv ∧ T 5 = .int .i64 i
        ∧ TW σ1.length ρ A nv ∧ A.length ≤ i ∧ sp 0 l = preS A (sp i (l.drop i))) l.length
      ⟨0, [], _, by simp, List.prefix_rfl, rfl, by simp [putT], rfl, rfl, .inl ⟨rfl, rfl⟩, by simp, by rw [preS_nil, List.drop_zero]⟩ ?_
    rintro k T ρ ⟨i, A, nv, hk, hp, t0, t3, t4, t5, hV, hA, hsp⟩
    have h3r := look_prefix hp h3
    have h3rl := look_lt h3r
    by_cases hi : i < l.length
    · obtain ⟨b, hb⟩ : ∃ b, l[i]? = some b := ⟨_, List.getElem?_eq_getElem hi⟩
      have hii : (i : Int) < (l.length : Int) := by omega
      have hdr : l.drop i = b :: l.drop (i + 1) := by
        obtain ⟨_, rfl⟩ := List.getElem?_eq_some_iff.1 hb
        exact List.drop_eq_getElem_cons hi
      by_cases q59 : b = 59
      · subst q59
        rw [hdr, sp_semi] at hsp
        rw [hR, hsp]
        simp only [go_sem, ↓reduceIte, Nat.reduceEqDiff, Nat.reduceAdd, Nat.reduceMul, Nat.reduceLT, Nat.reduceLeDiff, Int.reduceLT, Int.reduceLE, Int.reduceNeg, Int.reduceAdd, Int.reduceSub, Int.reduceMul, Int.reduceToNat, Int.reduceEq, Int.reduceNe, Int.cast_ofNat_Int, Int.natCast_one, Int.natCast_zero, Int.natCast_add, reduceCtorEq, t0, t3, t4, t5, hii, hb, b59', preS, List.append_nil, h3r, look_set h3rl, faultV]
        exact ⟨⟨_, rfl, (hV.set (Nat.lt_of_lt_of_le (Nat.lt_succ_self _) hs1l)).tv⟩, prefix_set (hpre.trans hp) (Nat.le_refl _)⟩
      · have hw : IntKind.i64.wrap ((i : Int) + 1) = (i : Int) + 1 := wrap64 (by omega)
        by_cases q32 : b = 32
        · rw [hdr, sp_space (.inl q32)] at hsp
          simp only [go_sem, ↓reduceIte, Nat.reduceEqDiff, Nat.reduceAdd, Nat.reduceMul, Nat.reduceLT, Nat.reduceLeDiff, Int.reduceLT, Int.reduceLE, Int.reduceNeg, Int.reduceAdd, Int.reduceSub, Int.reduceMul, Int.reduceToNat, Int.reduceEq, Int.reduceNe, Int.cast_ofNat_Int, Int.natCast_one, Int.natCast_zero, Int.natCast_add, reduceCtorEq, t0, t3, t4, t5, hii, hb, b59', b32, eq_true q59, eq_true q32, hw]
          refine ⟨k - 1, by omega, i + 1, A, nv, by omega, hp, rfl, rfl, hV, by omega, hsp⟩
        · by_cases q9 : b = 9
          · rw [hdr, sp_space (.inr q9)] at hsp
            simp only [go_sem, ↓reduceIte, Nat.reduceEqDiff, Nat.reduceAdd, Nat.reduceMul, Nat.reduceLT, Nat.reduceLeDiff, Int.reduceLT, Int.reduceLE, Int.reduceNeg, Int.reduceAdd, Int.reduceSub, Int.reduceMul, Int.reduceToNat, Int.reduceEq, Int.reduceNe, Int.cast_ofNat_Int, Int.natCast_one, Int.natCast_zero, Int.natCast_add, reduceCtorEq, t0, t3, t4, t5, hii, hb, b59', b32, b9, eq_true q59, eq_false q32, eq_true q9, hw]
            refine ⟨k - 1, by omega, i + 1, A, nv, by omega, hp, rfl, rfl, hV, by omega, hsp⟩
          · have htd : (l.drop i).take (l.length - i) = l.drop i := List.take_of_length_le (by simp)
            have hile : (i : Int) ≤ (l.length : Int) := by omega
            simp only [go_sem, ↓reduceIte, Nat.reduceEqDiff, Nat.reduceAdd, Nat.reduceMul, Nat.reduceLT, Nat.reduceLeDiff, Int.reduceLT, Int.reduceLE, Int.reduceNeg, Int.reduceAdd, Int.reduceSub, Int.reduceMul, Int.reduceToNat, Int.reduceEq, Int.reduceNe, Int.cast_ofNat_Int, Int.natCast_one, Int.natCast_zero, Int.natCast_add, reduceCtorEq, t0, t3, t4, t5, hii, hb, b59', b32, b9, eq_true q59, eq_false q32, eq_false q9, htd, hile, Int.le_refl]
            refine (f61_ok (l.drop i) (by simp; omega) _ (hG.mono (hpre.trans hp))).mono ?_
            rintro _ ρ1 ⟨rfl, hp1⟩
            have hnl := nextT_le (l.drop i)
            have hnb : ¬ (b = 32 ∨ b = 9) := fun h => h.elim q32 q9
            have hbd := sp_bad (off := i) (r := l.drop (i + 1)) q59 hnb
            have htk := sp_tok (off := i) (r := l.drop (i + 1)) q59 hnb
            rw [← hdr] at hbd htk
            generalize nextT (l.drop i) = nt at *
            obtain ⟨x, n⟩ := nt
            rw [List.length_drop] at hnl
            have h3q := look_prefix hp1 h3r
            have h3ql := look_lt h3q
            have hq := hp.trans hp1
            by_cases h0 : n = 0
            · have h0i : (n : Int) = 0 := by omega
              rw [hbd h0] at hsp
              rw [hR, hsp]
              simp only [go_sem, ↓reduceIte, Nat.reduceEqDiff, Nat.reduceAdd, Nat.reduceMul, Nat.reduceLT, Nat.reduceLeDiff, Int.reduceLT, Int.reduceLE, Int.reduceNeg, Int.reduceAdd, Int.reduceSub, Int.reduceMul, Int.reduceToNat, Int.reduceEq, Int.reduceNe, Int.cast_ofNat_Int, Int.natCast_one, Int.natCast_zero, Int.natCast_add, reduceCtorEq, t0, t3, t4, t5, Tk.cells, eq_true h0i, preS, look_app_lt h3ql, h3q, look_set h3ql, set_app_lt h3ql, lsa h3ql h3ql, faultV]
              exact ⟨⟨_, rfl, .inl ⟨rfl, rfl⟩⟩, (prefix_set (hpre.trans hq) (Nat.le_refl _)).trans (List.prefix_append _ _)⟩
            · have h0i : ¬ (n : Int) = 0 := by omega
              rw [htk h0] at hsp
              have hwn : IntKind.i64.wrap ((i : Int) + (n : Int)) = ((i + n : Nat) : Int) := by rw [wrap64 (by omega)]; omega
              obtain ⟨nv', ρ', hap, hp', hV', _, _⟩ := app_one (hq.trans (List.prefix_append _ _)) (Nat.le_refl _) (by have := hq.length_le; simp; omega) ((hV.mono hp1).mono (List.prefix_append _ [some ⟨[.int .i64 x.kind, .string (str x.text), .int .i64 x.value, .int .i64 i], true, 0⟩])) ⟨x.kind, x.text, x.value, (i : Int)⟩ (by omega)
              simp only [Tk.cells, List.append_assoc, List.cons_append, List.nil_append, List.length_append, List.length_cons, List.length_nil, Nat.zero_add] at hap
              simp only [go_sem, ↓reduceIte, Nat.reduceEqDiff, Nat.reduceAdd, Nat.reduceMul, Nat.reduceLT, Nat.reduceLeDiff, Int.reduceLT, Int.reduceLE, Int.reduceNeg, Int.reduceAdd, Int.reduceSub, Int.reduceMul, Int.reduceToNat, Int.reduceEq, Int.reduceNe, Int.cast_ofNat_Int, Int.natCast_one, Int.natCast_zero, Int.natCast_add, reduceCtorEq, t0, t3, t4, t5, Tk.cells, eq_false h0i, hap, hwn]
              refine ⟨k - n, by omega, i + n, A ++ [⟨x.kind, x.text, x.value, (i : Int)⟩], nv', by omega, hp', rfl, rfl, hV', by simp; omega, ?_⟩
              rw [hsp, List.drop_drop]
              cases sp (i + n) (l.drop (i + n)) with
              | inl e => rfl
              | inr L => simp [preS]
    · have hii : ¬ (i : Int) < (l.length : Int) := by omega
      rw [List.drop_eq_nil_of_le (by omega), sp_nil] at hsp
      rw [hR, hsp]
      simp only [go_sem, ↓reduceIte, Nat.reduceEqDiff, Nat.reduceAdd, Nat.reduceMul, Nat.reduceLT, Nat.reduceLeDiff, Int.reduceLT, Int.reduceLE, Int.reduceNeg, Int.reduceAdd, Int.reduceSub, Int.reduceMul, Int.reduceToNat, Int.reduceEq, Int.reduceNe, Int.cast_ofNat_Int, Int.natCast_one, Int.natCast_zero, Int.natCast_add, reduceCtorEq, t0, t3, t4, t5, hii, preS, List.append_nil, h3r, look_set h3rl, faultV]
      exact ⟨⟨_, rfl, (hV.set (Nat.lt_of_lt_of_le (Nat.lt_succ_self _) hs1l)).tv⟩, prefix_set (hpre.trans hp) (Nat.le_refl _)⟩
end Go.Proofs.YtkgdkommahgakaaDoor.Abs

/- The example that each token law tries first (f34). -/
namespace Go.Proofs.YtkgdkommahgakaaDoor.Abs
open Go Go.RowKit Gram
set_option linter.unusedVariables false
set_option linter.unusedSimpArgs false
set_option maxRecDepth 100000

def exA : List Tk := [⟨1, [97], 0, 0⟩, ⟨3, [44], 0, 1⟩, ⟨2, [], 16, 3⟩]
def exB : List Tk := [⟨1, [97], 0, 0⟩, ⟨3, [44], 0, 0⟩, ⟨2, [], 16, 0⟩]
theorem exSplit : splitR [97, 44, 32, 48, 120, 49, 48] = (exA, 0, 0) := by decide +kernel
theorem dec16 : dec 16 = [49, 54] := by
  rw [dec, if_neg (by omega), show 16 / 10 = 1 from rfl, dec, if_pos (by omega)]
  rfl
theorem exJoin : joinF exB = ([97, 32, 44, 32, 49, 54], 0, 0) := by
  have hj : joinT exB = [97, 32, 44, 32, 49, 54] := by
    have h16 : num 16 = [49, 54] := by
      rw [num, if_neg (by omega)]
      exact dec16
    simp [joinT, exB, textOf, h16, Lib.join_cons, Lib.joinTail]
  rw [joinF_all (by decide) (by decide), hj, if_neg (by decide)]
set_option maxHeartbeats 8000000 in
theorem f34_ok (σ : Heap) (hG : GE σ) (hP : GP σ) : CW Tryd.prog XT 34 [] σ fun v σ' => v = .bool true ∧ σ <+: σ' := by
  refine cw_in Tryd.func34 rfl Tryd.ntmps34 (rs := [.tmp 0]) rfl (by kernel_rfl) (by exact Nat.le_of_ble_eq_true rfl) ?_
  simp only [go_sem, ↓reduceIte, Nat.reduceEqDiff, Nat.reduceAdd, Nat.reduceMul, Nat.reduceLT, Nat.reduceLeDiff, Int.reduceLT, Int.reduceLE, Int.reduceNeg, Int.reduceAdd, Int.reduceSub, Int.reduceMul, Int.reduceToNat, Int.reduceEq, Int.reduceNe, Int.cast_ofNat_Int, Int.natCast_one, Int.natCast_zero, Int.natCast_add, reduceCtorEq]
  refine (f37_ok [97, 44, 32, 48, 120, 49, 48] (by decide) _ hG).mono ?_
  rintro _ ρ1 ⟨⟨tv, rfl, hT⟩, hp1⟩
  rw [exSplit] at hT
  rw [exSplit]
  obtain ⟨m, c, ow, rfl, hm⟩ : ∃ m c ow, tv = .slice (some ⟨m, 0, none⟩) exA.length c ∧ look ρ1 m = some ⟨exA.flatMap Tk.cells, ow, 4⟩ := by
    rcases hT with ⟨h, _⟩ | ⟨m, c, ow, h1, h2⟩
    · exact absurd h (by decide)
    · exact ⟨m, c, ow, h1, h2⟩
  have hxl : exA.length = 3 := rfl
  rw [hxl]
  rw [show exA.flatMap Tk.cells = [.int .i64 1, .string (str [97]), .int .i64 0, .int .i64 0, .int .i64 3, .string (str [44]), .int .i64 0, .int .i64 1, .int .i64 2, .string (str []), .int .i64 16, .int .i64 3] from rfl] at hm
  have hml := look_lt hm
  simp only [go_sem, ↓reduceIte, Nat.reduceEqDiff, Nat.reduceAdd, Nat.reduceMul, Nat.reduceLT, Nat.reduceLeDiff, Int.reduceLT, Int.reduceLE, Int.reduceNeg, Int.reduceAdd, Int.reduceSub, Int.reduceMul, Int.reduceToNat, Int.reduceEq, Int.reduceNe, Int.cast_ofNat_Int, Int.natCast_one, Int.natCast_zero, Int.natCast_add, reduceCtorEq, faultV]
  refine (f35_ok exB (ρ1.length + 1) 3 true 4 _ ?_ (by decide) (by decide) (hP.mono (hp1.trans (List.prefix_append _ _)))).mono ?_
  · rw [look_app_add]; rfl
  rintro _ ρ2 ⟨rfl, hp2⟩
  have h2 := look_prefix hp2 (show look _ ρ1.length = some _ by rw [look_app_new, look_zero])
  have hm2 := look_prefix hp2 (look_prefix (List.prefix_append _ _) hm)
  rw [exJoin]
  have h2l := look_lt h2
  have hm2l := look_lt hm2
  simp only [go_sem, ↓reduceIte, Nat.reduceEqDiff, Nat.reduceAdd, Nat.reduceMul, Nat.reduceLT, Nat.reduceLeDiff, Int.reduceLT, Int.reduceLE, Int.reduceNeg, Int.reduceAdd, Int.reduceSub, Int.reduceMul, Int.reduceToNat, Int.reduceEq, Int.reduceNe, Int.cast_ofNat_Int, Int.natCast_one, Int.natCast_zero, Int.natCast_add, reduceCtorEq, faultV, look_app_lt h2l, look_app_lt hm2l, h2, hm2, eq_true (show str [97] = ⟨#[97]⟩ from rfl), eq_true (show str [97, 32, 44, 32, 49, 54] = ⟨#[97, 32, 44, 32, 49, 54]⟩ from rfl)]
  exact ((hp1.trans (List.prefix_append _ _)).trans hp2).trans (List.prefix_append _ _)
end Go.Proofs.YtkgdkommahgakaaDoor.Abs
