import Derived.Test.YtkgdkommahgakaaDoorDesc
namespace Go.Proofs.YtkgdkommahgakaaDoor.Abs
open Go Go.RowKit Gram
set_option linter.unusedVariables false
set_option linter.unusedSimpArgs false
set_option maxRecDepth 100000

def faultV (f : Int × Int) : Value := .agg [.int .i64 f.1, .int .i64 f.2].toArray
/-- The first token that is none. -/
def badTok (L : List Tk) : Option Nat := L.findIdx? fun x => !validT x
theorem bad_hit {L : List Tk} {i : Nat} {x : Tk} (hx : L[i]? = some x) (hv : ∀ y ∈ L.take i, validT y = true) (h : validT x = false) : badTok L = some i := by
  unfold badTok
  rw [List.findIdx?_eq_some_iff_getElem]
  obtain ⟨hi, rfl⟩ := List.getElem?_eq_some_iff.1 hx
  refine ⟨hi, by simp [h], fun j hj => ?_⟩
  have : L[j] ∈ L.take i := List.mem_take_iff_getElem.2 ⟨j, by omega, rfl⟩
  simp [hv _ this]
theorem bad_none {L : List Tk} (hv : ∀ y ∈ L, validT y = true) : badTok L = none := by
  unfold badTok
  rw [List.findIdx?_eq_none_iff]
  intro x hx
  simp [hv x hx]
theorem take_valid {L : List Tk} {i : Nat} {x : Tk} (hx : L[i]? = some x) (hv : ∀ y ∈ L.take i, validT y = true) (h : validT x = true) : ∀ y ∈ L.take (i + 1), validT y = true := by
  intro y hy
  rw [List.take_add_one, hx] at hy
  rcases List.mem_append.1 hy with hy | hy
  · exact hv y hy
  · simp at hy; subst hy; exact h
def fuelOf (L : List Tk) : Nat := 9 * L.length + 8
def parseOf (L : List Tk) : Option (Tr Nd) := match pB (fuelOf L) 0 0 0 (L.map cls) with
  | some (t, []) => some t
  | _ => none
/-- What Parse hands back. -/
def ParseV (L : List Tk) (b : Nat) (v : Value) (σ' : Heap) : Prop :=
  match badTok L with
  | some i => v = .tuple #[.slice none 0 0, faultV (5, i)]
  | none => match parseOf L with
    | some t => ∃ q c, v = .tuple #[.slice (some ⟨q, 0, none⟩) t.size c, faultV (0, 0)] ∧ b ≤ q ∧ look σ' q = some ⟨(post t []).flatMap Nd.cells, true, 5⟩
    | none => ∃ cd i : Int, v = .tuple #[.slice none 0 0, faultV (cd, i)] ∧ cd ≠ 0 ∧ 0 ≤ i ∧ i ≤ L.length

set_option maxHeartbeats 2000000 in
theorem f18_ok (L : List Tk) (n c : Nat) (ow : Bool) (sz : Nat) (σ : Heap) (hl : look σ n = some ⟨L.flatMap Tk.cells, ow, sz⟩) (hG : GL σ) (hz : L.length * 40 ≤ 140737488400000) (ht : ∀ x ∈ L, x.text.length ≤ 140737488351232) :
    CW Tryd.prog XL 18 [.slice (some ⟨n, 0, none⟩) L.length c] σ fun v σ' => ParseV L σ.length v σ' ∧ σ <+: σ' := by
  refine cw_in Tryd.func18 rfl Tryd.ntmps18 (rs := [.tmp 2, .cell 3 26]) rfl (by kernel_rfl) (by exact Nat.le_of_ble_eq_true rfl) ?_
  have hn : n < σ.length := look_lt hl
  have htl := Tk.len L
  simp only [go_sem, ↓reduceIte, Nat.reduceEqDiff, Nat.reduceAdd, Nat.reduceMul, Nat.reduceLT, Nat.reduceLeDiff, Int.reduceLT, Int.reduceLE, Int.reduceNeg, Int.reduceAdd, Int.reduceSub, Int.reduceMul, Int.reduceToNat, Int.reduceEq, Int.reduceNe, Int.cast_ofNat_Int, Int.natCast_one, Int.natCast_zero, Int.natCast_add, reduceCtorEq]
  refine LW_run (fun k T ρ => ∃ (i : Nat) (τ : Heap), i + k = L.length ∧ ρ = σ ++ some ⟨[.int .i64 0, .int .i64 0], true, 0⟩ :: τ ∧ T 0 = .slice (some ⟨n, 0, none⟩) L.length c ∧ T 3 = .pointer (some ⟨σ.length, 0, none⟩) ∧ T 7 = .slice (some ⟨n, 0, none⟩) L.length c ∧ T 8 = .int .i64 L.length ∧ T 9 = .int .i64 i ∧ T 2 = .slice none 0 0
      ∧ ∀ y ∈ L.take i, validT y = true) L.length ⟨0, [], by simp, rfl, rfl, rfl, rfl, rfl, rfl, rfl, by simp⟩ ?_
  rintro k T _ ⟨i, τ, hk, rfl, t0, t3, t7, t8, t9, t2, hv⟩
  simp only [go_sem, ↓reduceIte, Nat.reduceEqDiff, Nat.reduceAdd, Nat.reduceMul, Nat.reduceLT, Nat.reduceLeDiff, Int.reduceLT, Int.reduceLE, Int.reduceNeg, Int.reduceAdd, Int.reduceSub, Int.reduceMul, Int.reduceToNat, Int.reduceEq, Int.reduceNe, Int.cast_ofNat_Int, Int.natCast_one, Int.natCast_zero, Int.natCast_add, reduceCtorEq, t0, t2, t3, t7, t8, t9]
  refine fork_dec (fun _ => ?_) (fun _ => ?_)
  · rename_i hi
    obtain ⟨x, hx⟩ : ∃ x, L[i]? = some x := ⟨_, List.getElem?_eq_getElem (by omega)⟩
    have hw : IntKind.i64.wrap ((i : Int) + 1) = (i : Int) + 1 := wrap64 (by omega)
    simp only [go_sem, ↓reduceIte, Nat.reduceEqDiff, Nat.reduceAdd, Nat.reduceMul, Nat.reduceLT, Nat.reduceLeDiff, Int.reduceLT, Int.reduceLE, Int.reduceNeg, Int.reduceAdd, Int.reduceSub, Int.reduceMul, Int.reduceToNat, Int.reduceEq, Int.reduceNe, Int.cast_ofNat_Int, Int.natCast_one, Int.natCast_zero, Int.natCast_add, reduceCtorEq, t0, t2, t3, t7, t8, t9, hi, look_app_lt hn, hl, Tk.take hx, htl, show i * 4 + 4 ≤ L.length * 4 by omega, Tk.cells]
    refine (f46_ok x (ht x (List.mem_of_getElem? hx)) _).mono ?_
    rintro _ _ ⟨rfl, τ2, rfl⟩
    cases hvx : validT x with
    | false =>
      simp only [go_sem, ↓reduceIte, Nat.reduceEqDiff, Nat.reduceAdd, Nat.reduceMul, Nat.reduceLT, Nat.reduceLeDiff, Int.reduceLT, Int.reduceLE, Int.reduceNeg, Int.reduceAdd, Int.reduceSub, Int.reduceMul, Int.reduceToNat, Int.reduceEq, Int.reduceNe, Int.cast_ofNat_Int, Int.natCast_one, Int.natCast_zero, Int.natCast_add, reduceCtorEq, t0, t2, t3, t7, t8, t9]
      refine ⟨?_, List.prefix_append _ _⟩
      rw [ParseV, bad_hit hx hv hvx]
      rfl
    | true =>
      simp only [go_sem, ↓reduceIte, Nat.reduceEqDiff, Nat.reduceAdd, Nat.reduceMul, Nat.reduceLT, Nat.reduceLeDiff, Int.reduceLT, Int.reduceLE, Int.reduceNeg, Int.reduceAdd, Int.reduceSub, Int.reduceMul, Int.reduceToNat, Int.reduceEq, Int.reduceNe, Int.cast_ofNat_Int, Int.natCast_one, Int.natCast_zero, Int.natCast_add, reduceCtorEq, t0, t2, t3, t7, t8, t9, hw]
      refine ⟨k - 1, by omega, i + 1, _, by omega, rfl, ?_⟩
      (repeat' (first | exact rfl | apply And.intro))
      exact take_valid hx hv hvx
  · rename_i hi
    have hii : i = L.length := by omega
    subst hii
    rw [List.take_length] at hv
    simp only [go_sem, ↓reduceIte, Nat.reduceEqDiff, Nat.reduceAdd, Nat.reduceMul, Nat.reduceLT, Nat.reduceLeDiff, Int.reduceLT, Int.reduceLE, Int.reduceNeg, Int.reduceAdd, Int.reduceSub, Int.reduceMul, Int.reduceToNat, Int.reduceEq, Int.reduceNe, Int.cast_ofNat_Int, Int.natCast_one, Int.natCast_zero, Int.natCast_add, reduceCtorEq, t0, t2, t3, t7, t8, t9, hi]
    obtain ⟨σ1, hσ1⟩ : ∃ σ1, σ1 = σ ++ some (⟨[.int .i64 0, .int .i64 0], true, 0⟩ : Blk) :: τ := ⟨_, rfl⟩
    have hp1 : σ <+: σ1 := hσ1 ▸ List.prefix_append _ _
    have hf1 : look σ1 σ.length = some ⟨[.int .i64 0, .int .i64 0], true, 0⟩ := by rw [hσ1, look_app_new, look_zero]
    have hlen1 : σ.length + (τ.length + 1) = σ1.length := by rw [hσ1]; simp
    have hσ2 : σ ++ some (⟨[.int .i64 0, .int .i64 0], true, 0⟩ : Blk) :: (τ ++ [some ⟨[.slice (some ⟨n, 0, none⟩) L.length c, .int .i64 0, .slice none 0 0, .int .i64 0], true, 0⟩]) = σ1 ++ [some ⟨[.slice (some ⟨n, 0, none⟩) L.length c, .int .i64 0, .slice none 0 0, .int .i64 0], true, 0⟩] := by rw [hσ1]; simp
    rw [hσ2, hlen1]
    clear hσ1 hσ2 hlen1
    have hl1 := look_prefix hp1 hl
    have hlt1 := look_lt hf1
    have hP : Ps σ1 (σ1 ++ [some ⟨[.slice (some ⟨n, 0, none⟩) L.length c, .int .i64 0, .slice none 0 0, .int .i64 0], true, 0⟩]) σ1.length n c L 0 [] 0 :=
      ⟨List.prefix_append _ _, Nat.le_refl _, ⟨ow, sz, hl1⟩, Nat.zero_le _, hz, by simp, _, by rw [look_app_new, look_zero]; rfl, .inl ⟨rfl, rfl⟩⟩
    refine ((parse_all (fuelOf L)).2 0 0 (by omega) (hG.mono hp1) hv hP (by omega) (by unfold fuelOf; omega)).mono ?_
    rintro v σ2 ⟨-, hA⟩
    rw [List.drop_zero, List.length_nil] at hA
    have hpar : parseOf L = match pB (fuelOf L) 0 0 0 (L.map cls) with | some (t, []) => some t | _ => none := rfl
    cases hr : pB (fuelOf L) 0 0 0 (L.map cls) with
    | none =>
      rw [hr] at hA hpar
      obtain ⟨a', n', c', w, rfl, hc', hps⟩ := hA rfl
      obtain ⟨nv, hb, hnn⟩ := hps.blk
      have hle := hps.le
      have hpp := hp1.trans hps.pre
      have hf2 := look_prefix hps.pre hf1
      have hflt := look_lt hf2
      simp only [go_sem, ↓reduceIte, Nat.reduceEqDiff, Nat.reduceAdd, Nat.reduceMul, Nat.reduceLT, Nat.reduceLeDiff, Int.reduceLT, Int.reduceLE, Int.reduceNeg, Int.reduceAdd, Int.reduceSub, Int.reduceMul, Int.reduceToNat, Int.reduceEq, Int.reduceNe, Int.cast_ofNat_Int, Int.natCast_one, Int.natCast_zero, Int.natCast_add, reduceCtorEq, t0, t2, t3, t7, t8, t9, hb, hc', hf2]
      (repeat (refine And.intro ?_ ?_; focus (first | (refine quiet_pre ?_; simp [List.cons_prefix_cons]; done) | (refine quiet_look ?_; kernel_rfl))))
      simp only [go_sem, ↓reduceIte, Nat.reduceEqDiff, Nat.reduceAdd, Nat.reduceMul, Nat.reduceLT, Nat.reduceLeDiff, Int.reduceLT, Int.reduceLE, Int.reduceNeg, Int.reduceAdd, Int.reduceSub, Int.reduceMul, Int.reduceToNat, Int.reduceEq, Int.reduceNe, Int.cast_ofNat_Int, Int.natCast_one, Int.natCast_zero, Int.natCast_add, reduceCtorEq, t0, t2, t3, t7, t8, t9, look_set hflt]
      refine ⟨?_, prefix_set hpp (Nat.le_refl _)⟩
      rw [ParseV, bad_none hv, hpar]
      exact ⟨c', a', rfl, hc', by omega, by omega⟩
    | some tr =>
      obtain ⟨t, r⟩ := tr
      rw [hr] at hA hpar
      obtain ⟨a', hlt, rfl, rfl, hps⟩ := hA rfl
      obtain ⟨nv, hb, hnn⟩ := hps.blk
      have hle := hps.le
      have hpp := hp1.trans hps.pre
      have hf2 := look_prefix hps.pre hf1
      have hflt := look_lt hf2
      have hbl := look_lt hb
      have hlp := hps.pre.length_le
      have hne : σ1.length ≠ σ.length := by omega
      have hne2 : σ.length ≠ σ1.length := by omega
      by_cases hend : a' < L.length
      · simp only [go_sem, ↓reduceIte, Nat.reduceEqDiff, Nat.reduceAdd, Nat.reduceMul, Nat.reduceLT, Nat.reduceLeDiff, Int.reduceLT, Int.reduceLE, Int.reduceNeg, Int.reduceAdd, Int.reduceSub, Int.reduceMul, Int.reduceToNat, Int.reduceEq, Int.reduceNe, Int.cast_ofNat_Int, Int.natCast_one, Int.natCast_zero, Int.natCast_add, reduceCtorEq, t0, t2, t3, t7, t8, t9, hb, show (a' : Int) < (L.length : Int) by omega, look_set hbl, look_set hflt, hf2, hne2]
        (repeat (refine And.intro ?_ ?_; focus (first | (refine quiet_pre ?_; simp [List.cons_prefix_cons]; done) | (refine quiet_look ?_; kernel_rfl))))
        have hflt3 : σ.length < (σ2.set σ1.length (some ⟨[.slice (some ⟨n, 0, none⟩) L.length c, .int .i64 a', nv, .int .i64 1], true, 0⟩)).length := by rw [List.length_set]; exact hflt
        simp only [go_sem, ↓reduceIte, Nat.reduceEqDiff, Nat.reduceAdd, Nat.reduceMul, Nat.reduceLT, Nat.reduceLeDiff, Int.reduceLT, Int.reduceLE, Int.reduceNeg, Int.reduceAdd, Int.reduceSub, Int.reduceMul, Int.reduceToNat, Int.reduceEq, Int.reduceNe, Int.cast_ofNat_Int, Int.natCast_one, Int.natCast_zero, Int.natCast_add, reduceCtorEq, t0, t2, t3, t7, t8, t9, look_set hflt3]
        refine ⟨?_, prefix_set (prefix_set hpp hp1.length_le) (Nat.le_refl _)⟩
        rw [ParseV, bad_none hv, hpar]
        rw [List.drop_eq_getElem_cons hend, List.map_cons]
        exact ⟨1, a', rfl, by omega, by omega, by omega⟩
      · simp only [go_sem, ↓reduceIte, Nat.reduceEqDiff, Nat.reduceAdd, Nat.reduceMul, Nat.reduceLT, Nat.reduceLeDiff, Int.reduceLT, Int.reduceLE, Int.reduceNeg, Int.reduceAdd, Int.reduceSub, Int.reduceMul, Int.reduceToNat, Int.reduceEq, Int.reduceNe, Int.cast_ofNat_Int, Int.natCast_one, Int.natCast_zero, Int.natCast_add, reduceCtorEq, t0, t2, t3, t7, t8, t9, hb, show ¬ (a' : Int) < (L.length : Int) by omega, look_set hflt, hf2]
        refine ⟨?_, prefix_set hpp (Nat.le_refl _)⟩
        rw [ParseV, bad_none hv, hpar]
        rw [List.drop_eq_nil_of_le (by omega)]
        have hpl := post_len t []
        simp only [List.length_nil, Nat.zero_add] at hpl
        have hpos := t.pos
        rcases hnn with ⟨h1, rfl⟩ | ⟨q, cq, rfl, hq, h2, h3⟩
        · rw [h1] at hpl; simp at hpl; omega
        · refine ⟨q, cq, by rw [hpl]; rfl, by have := hp1.length_le; omega, ?_⟩
          rw [look_set hflt, if_neg]
          · exact h3
          · have := hp1.length_le; omega
end Go.Proofs.YtkgdkommahgakaaDoor.Abs
