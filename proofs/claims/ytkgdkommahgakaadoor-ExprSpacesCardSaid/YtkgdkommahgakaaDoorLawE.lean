/- The law function ExprSpaces (f6). -/
import Derived.Test.YtkgdkommahgakaaDoorSpac
import Derived.Test.YtkgdkommahgakaaDoorLawS
namespace Go.Proofs.YtkgdkommahgakaaDoor.Abs
open Go Go.RowKit Gram
set_option linter.unusedVariables false
set_option linter.unusedSimpArgs false
set_option maxRecDepth 100000

theorem f29_ok (X : Ext) (s : List UInt8) (σ : Heap) : CW Tryd.prog X 29 [.string (str s)] σ fun v σ' => v = .agg (tkS s).cells.toArray ∧ σ <+: σ' := by
  refine cw_in Tryd.func29 rfl Tryd.ntmps29 (rs := [.cell 2 31]) rfl (by kernel_rfl) (by exact Nat.le_of_ble_eq_true rfl) ?_
  simp only [go_sem, ↓reduceIte, Nat.reduceEqDiff, Nat.reduceAdd, Nat.reduceMul, Nat.reduceLT, Nat.reduceLeDiff, Int.reduceLT, Int.reduceLE, Int.reduceNeg, Int.reduceAdd, Int.reduceSub, Int.reduceMul, Int.reduceToNat, Int.reduceEq, Int.reduceNe, Int.cast_ofNat_Int, Int.natCast_one, Int.natCast_zero, Int.natCast_add, reduceCtorEq]
  exact ⟨rfl, List.prefix_append _ _⟩
theorem f26_nil (X : Ext) (σ : Heap) : CW Tryd.prog X 26 [.slice none 0 0] σ fun v σ' => v = faultV (2, -1) ∧ σ <+: σ' := by
  refine cw_in Tryd.func26 rfl Tryd.ntmps26 (rs := [.cell 2 26]) rfl (by kernel_rfl) (by exact Nat.le_of_ble_eq_true rfl) ?_
  simp only [go_sem, ↓reduceIte, Nat.reduceEqDiff, Nat.reduceAdd, Nat.reduceMul, Nat.reduceLT, Nat.reduceLeDiff, Int.reduceLT, Int.reduceLE, Int.reduceNeg, Int.reduceAdd, Int.reduceSub, Int.reduceMul, Int.reduceToNat, Int.reduceEq, Int.reduceNe, Int.cast_ofNat_Int, Int.natCast_one, Int.natCast_zero, Int.natCast_add, reduceCtorEq]
  exact ⟨rfl, List.prefix_append _ _⟩
theorem f24_nil (X : Ext) (sv : Value) (σ : Heap) : CW Tryd.prog X 24 [.slice none 0 0, sv] σ fun v σ' => v = .tuple #[.agg Lin.zero.cells.toArray, faultV (2, -1)] ∧ σ <+: σ' := by
  refine cw_in Tryd.func24 rfl Tryd.ntmps24 (rs := [.cell 4 40, .cell 5 26]) rfl (by kernel_rfl) (by exact Nat.le_of_ble_eq_true rfl) ?_
  simp only [go_sem, ↓reduceIte, Nat.reduceEqDiff, Nat.reduceAdd, Nat.reduceMul, Nat.reduceLT, Nat.reduceLeDiff, Int.reduceLT, Int.reduceLE, Int.reduceNeg, Int.reduceAdd, Int.reduceSub, Int.reduceMul, Int.reduceToNat, Int.reduceEq, Int.reduceNe, Int.cast_ofNat_Int, Int.natCast_one, Int.natCast_zero, Int.natCast_add, reduceCtorEq]
  refine (f26_nil X _).mono ?_
  rintro _ _ ⟨rfl, τ, rfl⟩
  simp only [go_sem, ↓reduceIte, Nat.reduceEqDiff, Nat.reduceAdd, Nat.reduceMul, Nat.reduceLT, Nat.reduceLeDiff, Int.reduceLT, Int.reduceLE, Int.reduceNeg, Int.reduceAdd, Int.reduceSub, Int.reduceMul, Int.reduceToNat, Int.reduceEq, Int.reduceNe, Int.cast_ofNat_Int, Int.natCast_one, Int.natCast_zero, Int.natCast_add, reduceCtorEq, faultV]
  refine And.intro (quiet_late (by kernel_rfl) [6] [4, 5] (by kernel_rfl) (by kernel_rfl) (by simp [putT, ptrOf])) ?_
  exact ⟨rfl, List.prefix_append _ _⟩
theorem exprFault_nil : exprFault [] = (2, -1) := rfl
theorem valueOf_nil (S : List Sy) : valueOf [] S = (Lin.zero, (2, -1)) := rfl
/-- Value, of nodes that may be none. -/
theorem f24_nb (X : Ext) (E : List Nd) (S : List Sy) (ev sv : Value) (σ : Heap) (hl : NB σ E ev) (hm : SB σ S sv) (ht : ∀ x ∈ E, x.name.length ≤ 140737488351232) (hts : ∀ x ∈ S, x.few) (hz : E.length ≤ 140737488351232) (hzs : S.length ≤ 140737488351232) :
    CW Tryd.prog X 24 [ev, sv] σ fun v σ' => v = .tuple #[.agg (valueOf E S).1.cells.toArray, faultV (valueOf E S).2] ∧ σ <+: σ' := by
  rcases hl with ⟨rfl, rfl⟩ | ⟨n, c, ow, sz, rfl, hl⟩
  · rw [valueOf_nil]
    exact f24_nil X sv σ
  · exact f24_ok X E S n c sv ow sz σ hl hm ht hts hz hzs E.length rfl
/-- Names in an expression that was read. -/
def trNames (k : Nat) : Tr Nd → Prop
  | .atom n => n.name.length ≤ k
  | .un _ t => trNames k t
  | .bin _ a b => trNames k a ∧ trNames k b
theorem post_names {k : Nat} : ∀ (t : Tr Nd) (out : List Nd), trNames k t → (∀ x ∈ out, x.name.length ≤ k) → ∀ x ∈ post t out, x.name.length ≤ k
  | .atom n, out, ht, ho, x, hx => by
    rw [post] at hx
    rcases List.mem_append.1 hx with hx | hx
    · exact ho x hx
    · rw [List.mem_singleton.1 hx]; exact ht
  | .un q t, out, ht, ho, x, hx => by
    rw [post] at hx
    rcases List.mem_append.1 hx with hx | hx
    · exact post_names t out ht ho x hx
    · rw [List.mem_singleton.1 hx]; simp
  | .bin q a b, out, ht, ho, x, hx => by
    rw [post] at hx
    rcases List.mem_append.1 hx with hx | hx
    · exact post_names b _ ht.2 (post_names a out ht.1 ho) x hx
    · rw [List.mem_singleton.1 hx]; simp
theorem der_names {k : Nat} {j d : Nat} {l : List (Cl Nd)} {t : Tr Nd} (h : Der j d l t) : (∀ n, Cl.atom n ∈ l → n.name.length ≤ k) → trNames k t := by
  induction h with
  | atom d a => exact fun h => h a (by simp)
  | un d c q l t hc hd h ih => exact fun h => ih fun n hn => h n (by simp [hn])
  | par d l t hd h ih => exact fun h => ih fun n hn => h n (by simp [hn])
  | up q d l t hk h ih => exact ih
  | bin q d a b c ta tb hk hc ha hb iha ihb => exact fun h => ⟨iha fun n hn => h n (by simp [hn]), ihb fun n hn => h n (by simp [hn])⟩
theorem parse_names {k : Nat} {L : List Tk} {t : Tr Nd} (h : parseOf L = some t) (hL : ∀ x ∈ L, x.text.length ≤ k) : ∀ x ∈ post t [], x.name.length ≤ k := by
  refine post_names t [] (der_names (nd_sound _ _ _ _ (toks_ok L) ((parse_nodes L t).1 h).1).1 fun n hn => ?_) (by simp)
  obtain ⟨x, hx, he⟩ := List.mem_map.1 hn
  have := hL x hx
  unfold cls at he
  repeat' split at he
  all_goals first | (simp only [Cl.atom.injEq] at he; subst he; simp; done) | (simp only [Cl.atom.injEq] at he; subst he; exact this) | (simp at he; done)
theorem Tk.valid_text {x : Tk} {k : Nat} (h : x.text.length ≤ k) : x.text.length ≤ k := h
set_option maxHeartbeats 2000000 in
theorem f6_ok (L : List Tk) (n c : Nat) (sz : Nat) (σ : Heap) (hl : look σ n = some ⟨L.flatMap Tk.cells, false, sz⟩) (hG : GL σ) (hz : L.length * 40 ≤ 140737488351232) (ht : ∀ x ∈ L, x.text.length ≤ 140737488351232) :
    CW Tryd.prog XL 6 [.slice (some ⟨n, 0, none⟩) L.length c] σ fun v σ' => v = .bool true ∧ σ <+: σ' := by
  refine cw_in Tryd.func6 rfl Tryd.ntmps6 (rs := [.tmp 2]) rfl (by kernel_rfl) (by exact Nat.le_of_ble_eq_true rfl) ?_
  have hn := look_lt hl
  have htl := Tk.len L
  simp only [go_sem, ↓reduceIte, Nat.reduceEqDiff, Nat.reduceAdd, Nat.reduceMul, Nat.reduceLT, Nat.reduceLeDiff, Int.reduceLT, Int.reduceLE, Int.reduceNeg, Int.reduceAdd, Int.reduceSub, Int.reduceMul, Int.reduceToNat, Int.reduceEq, Int.reduceNe, Int.cast_ofNat_Int, Int.natCast_one, Int.natCast_zero, Int.natCast_add, reduceCtorEq]
  refine (f17_ok σ hG).mono ?_
  rintro _ ρ0 ⟨rfl, hp0⟩
  simp only [go_sem, ↓reduceIte, Nat.reduceEqDiff, Nat.reduceAdd, Nat.reduceMul, Nat.reduceLT, Nat.reduceLeDiff, Int.reduceLT, Int.reduceLE, Int.reduceNeg, Int.reduceAdd, Int.reduceSub, Int.reduceMul, Int.reduceToNat, Int.reduceEq, Int.reduceNe, Int.cast_ofNat_Int, Int.natCast_one, Int.natCast_zero, Int.natCast_add, reduceCtorEq]
  refine (f29_ok XL [40] _).mono ?_
  rintro _ ρ1 ⟨rfl, hp1⟩
  have hl1 := look_prefix (hp0.trans hp1) hl
  have hn1 := look_lt hl1
  have hsrc : ∀ l : Heap, asrc (ρ1 ++ l) 4 (.slice (some ⟨n, 0, none⟩) L.length c) = some (L.length, L.flatMap Tk.cells) := fun l => by
    rw [src_ptr (b := ⟨L.flatMap Tk.cells, false, sz⟩) ((look_app_lt hn1).trans hl1) (by rw [htl]; omega), List.drop_zero, List.take_of_length_le (by rw [htl]; omega)]
  simp only [go_sem, ↓reduceIte, Nat.reduceEqDiff, Nat.reduceAdd, Nat.reduceMul, Nat.reduceLT, Nat.reduceLeDiff, Int.reduceLT, Int.reduceLE, Int.reduceNeg, Int.reduceAdd, Int.reduceSub, Int.reduceMul, Int.reduceToNat, Int.reduceEq, Int.reduceNe, Int.cast_ofNat_Int, Int.natCast_one, Int.natCast_zero, Int.natCast_add, reduceCtorEq, Tk.cells, tkS, hsrc, eq_true (show (1 + L.length + 410) * 40 ≤ 225179981368524 by omega)]
  refine (f29_ok XL [41] _).mono ?_
  rintro _ ρ2 ⟨rfl, hp2⟩
  have ha := look_prefix hp2 (show look _ (ρ1.length + 2) = some _ by rw [look_app_add]; rfl)
  have hal := look_lt ha
  have hpp := ((hp0.trans hp1).trans (List.prefix_append _ _)).trans hp2
  have hle := (hp0.trans hp1).length_le
  clear hp2
  simp only [go_sem, ↓reduceIte, Nat.reduceEqDiff, Nat.reduceAdd, Nat.reduceMul, Nat.reduceLT, Nat.reduceLeDiff, Int.reduceLT, Int.reduceLE, Int.reduceNeg, Int.reduceAdd, Int.reduceSub, Int.reduceMul, Int.reduceToNat, Int.reduceEq, Int.reduceNe, Int.cast_ofNat_Int, Int.natCast_one, Int.natCast_zero, Int.natCast_add, reduceCtorEq, Tk.cells, tkS, look_app_lt hal, ha, htl, show L.length * 4 + 1 + 1 + 1 + 1 = (1 + L.length) * 4 by omega, eq_true (show (1 + L.length + 1 + 410) * 40 ≤ 225179981368524 by omega), eq_false (show ¬ 1 + L.length = 0 by omega)]
  have hprem : σ.length ≤ ρ1.length + 2 := by omega
  have hF : look (List.set (ρ2 ++ [some (⟨[.int .i64 3, .string (str [41]), .int .i64 0, .int .i64 0], true, 4⟩ : Blk)]) (ρ1.length + 2) none ++ [some (⟨.int .i64 3 :: .string (str [40]) :: .int .i64 0 :: .int .i64 0 :: (L.flatMap Tk.cells ++ [.int .i64 3, .string (str [41]), .int .i64 0, .int .i64 0]), true, 4⟩ : Blk)]) (ρ2.length + 1) = some ⟨(tkS [40] :: (L ++ [tkS [41]])).flatMap Tk.cells, true, 4⟩ := by
    have := @lsn (ρ2 ++ [some (⟨[.int .i64 3, .string (str [41]), .int .i64 0, .int .i64 0], true, 4⟩ : Blk)]) [some (⟨.int .i64 3 :: .string (str [40]) :: .int .i64 0 :: .int .i64 0 :: (L.flatMap Tk.cells ++ [.int .i64 3, .string (str [41]), .int .i64 0, .int .i64 0]), true, 4⟩ : Blk)] (ρ1.length + 2) none
    rw [List.length_append] at this
    rw [show ρ2.length + 1 = ρ2.length + [some (⟨[.int .i64 3, .string (str [41]), .int .i64 0, .int .i64 0], true, 4⟩ : Blk)].length from rfl, this, look_zero]
    simp [tkS, Tk.cells]
  have hP : σ <+: List.set (ρ2 ++ [some (⟨[.int .i64 3, .string (str [41]), .int .i64 0, .int .i64 0], true, 4⟩ : Blk)]) (ρ1.length + 2) none ++ [some (⟨.int .i64 3 :: .string (str [40]) :: .int .i64 0 :: .int .i64 0 :: (L.flatMap Tk.cells ++ [.int .i64 3, .string (str [41]), .int .i64 0, .int .i64 0]), true, 4⟩ : Blk)] :=
    (prefix_set (hpp.trans (List.prefix_append _ _)) hprem).trans (List.prefix_append _ _)
  generalize List.set (ρ2 ++ [some (⟨[.int .i64 3, .string (str [41]), .int .i64 0, .int .i64 0], true, 4⟩ : Blk)]) (ρ1.length + 2) none ++ [some (⟨.int .i64 3 :: .string (str [40]) :: .int .i64 0 :: .int .i64 0 :: (L.flatMap Tk.cells ++ [.int .i64 3, .string (str [41]), .int .i64 0, .int .i64 0]), true, 4⟩ : Blk)] = ρ3 at *
  generalize ρ2.length + 1 = q at *
  obtain ⟨LL, hLL⟩ : ∃ LL, LL = tkS [40] :: (L ++ [tkS [41]]) := ⟨_, rfl⟩
  rw [← hLL] at hF
  clear hpp ha hal hsrc hl1 hn1 hp1 hp0 hle hprem
  refine (f18_ok L n c false sz ρ3 (look_prefix hP hl) (hG.mono hP) (by omega) ht).mono ?_
  rintro v ρ4 ⟨hPa, hp4⟩
  obtain ⟨A, a, cd, ix, rfl, hA, hbadA, hgoodA, hnoneA⟩ := parseV_split hPa
  simp only [go_sem, ↓reduceIte, Nat.reduceEqDiff, Nat.reduceAdd, Nat.reduceMul, Nat.reduceLT, Nat.reduceLeDiff, Int.reduceLT, Int.reduceLE, Int.reduceNeg, Int.reduceAdd, Int.reduceSub, Int.reduceMul, Int.reduceToNat, Int.reduceEq, Int.reduceNe, Int.cast_ofNat_Int, Int.natCast_one, Int.natCast_zero, Int.natCast_add, reduceCtorEq, faultV]
  have hlen : LL.length = 1 + L.length + 1 := by rw [hLL]; simp; omega
  have htx : ∀ x ∈ LL, x.text.length ≤ 140737488351232 := fun x hx => by
    rw [hLL] at hx
    rcases List.mem_cons.1 hx with rfl | hx
    · simp [tkS]
    · rcases List.mem_append.1 hx with hx | hx
      · exact ht x hx
      · rw [List.mem_singleton.1 hx]; simp [tkS]
  have F := f18_ok LL q (1 + L.length + 1 + 1) true 4 _ (look_prefix (hp4.trans (List.prefix_append ρ4 [some (⟨[.int .i64 cd, .int .i64 ix], true, 0⟩ : Blk)])) hF) (hG.mono ((hP.trans hp4).trans (List.prefix_append _ _))) (by rw [hlen]; omega) htx
  rw [hlen] at F
  refine F.mono ?_
  clear F
  rintro v ρ5 ⟨hPb, hp5⟩
  obtain ⟨B, b, cd2, ix2, rfl, hB, hbadB, hgoodB, hnoneB⟩ := parseV_split hPb
  have hfa := look_prefix hp5 (show look _ ρ4.length = some _ by rw [look_app_new, look_zero])
  have hA5 := hA.mono ((List.prefix_append _ _).trans hp5)
  have hP5 := ((hP.trans hp4).trans (List.prefix_append _ _)).trans hp5
  have hF5 := look_prefix ((hp4.trans (List.prefix_append _ _)).trans hp5) hF
  have hq5 := look_lt hF5
  have hal5 := look_lt hfa
  have hal := hA.len
  clear hp5 hp4 hPa hPb hF hP
  generalize ρ4.length = fa at *
  by_cases c1 : cd = 0
  case neg =>
    have hAn : A = [] := by
      cases hb : badTok L with
      | some j => exact (hbadA j hb).1
      | none =>
        cases hpp : parseOf L with
        | none => exact (hnoneA hb hpp).1
        | some t => exact absurd (hgoodA hb t hpp).2 c1
    subst hAn
    simp only [go_sem, ↓reduceIte, Nat.reduceEqDiff, Nat.reduceAdd, Nat.reduceMul, Nat.reduceLT, Nat.reduceLeDiff, Int.reduceLT, Int.reduceLE, Int.reduceNeg, Int.reduceAdd, Int.reduceSub, Int.reduceMul, Int.reduceToNat, Int.reduceEq, Int.reduceNe, Int.cast_ofNat_Int, Int.natCast_one, Int.natCast_zero, Int.natCast_add, reduceCtorEq, faultV, look_app_lt hal5, hfa, eq_false c1, hal, List.length_nil, Int.natCast_zero]
    exact hP5.trans (List.prefix_append _ _)
  by_cases c2 : cd2 = 0
  case neg =>
    simp only [go_sem, ↓reduceIte, Nat.reduceEqDiff, Nat.reduceAdd, Nat.reduceMul, Nat.reduceLT, Nat.reduceLeDiff, Int.reduceLT, Int.reduceLE, Int.reduceNeg, Int.reduceAdd, Int.reduceSub, Int.reduceMul, Int.reduceToNat, Int.reduceEq, Int.reduceNe, Int.cast_ofNat_Int, Int.natCast_one, Int.natCast_zero, Int.natCast_add, reduceCtorEq, faultV, look_app_lt hal5, hfa, eq_true c1, eq_false c2]
    exact hP5.trans (List.prefix_append _ _)
  simp only [go_sem, ↓reduceIte, Nat.reduceEqDiff, Nat.reduceAdd, Nat.reduceMul, Nat.reduceLT, Nat.reduceLeDiff, Int.reduceLT, Int.reduceLE, Int.reduceNeg, Int.reduceAdd, Int.reduceSub, Int.reduceMul, Int.reduceToNat, Int.reduceEq, Int.reduceNe, Int.cast_ofNat_Int, Int.natCast_one, Int.natCast_zero, Int.natCast_add, reduceCtorEq, faultV, look_app_lt hal5, hfa, eq_true c1, eq_true c2]
  refine (f29_ok XL [45] _).mono ?_
  rintro _ ρ6 ⟨rfl, hp6⟩
  simp only [go_sem, ↓reduceIte, Nat.reduceEqDiff, Nat.reduceAdd, Nat.reduceMul, Nat.reduceLT, Nat.reduceLeDiff, Int.reduceLT, Int.reduceLE, Int.reduceNeg, Int.reduceAdd, Int.reduceSub, Int.reduceMul, Int.reduceToNat, Int.reduceEq, Int.reduceNe, Int.cast_ofNat_Int, Int.natCast_one, Int.natCast_zero, Int.natCast_add, reduceCtorEq]
  refine (f29_ok XL [45] _).mono ?_
  rintro _ ρ7 ⟨rfl, hp7⟩
  have hp57 : ρ5 <+: ρ7 := ((List.prefix_append _ _).trans hp6).trans hp7
  have hF7 := look_prefix hp57 hF5
  have hq7 := look_lt hF7
  have hll := Tk.len LL
  have htk : List.take ((1 + L.length + 1) * 4) (LL.flatMap Tk.cells) = LL.flatMap Tk.cells := List.take_of_length_le (by rw [hll, hlen]; omega)
  simp only [go_sem, ↓reduceIte, Nat.reduceEqDiff, Nat.reduceAdd, Nat.reduceMul, Nat.reduceLT, Nat.reduceLeDiff, Int.reduceLT, Int.reduceLE, Int.reduceNeg, Int.reduceAdd, Int.reduceSub, Int.reduceMul, Int.reduceToNat, Int.reduceEq, Int.reduceNe, Int.cast_ofNat_Int, Int.natCast_one, Int.natCast_zero, Int.natCast_add, reduceCtorEq, tkS, Tk.cells, look_app_lt hq7, hF7, hll, hlen, htk, eq_true (show (2 + (1 + L.length + 1) + 410) * 40 ≤ 225179981368524 by omega)]
  have hlen2 : (tkS [45] :: tkS [45] :: LL).length = 2 + (1 + L.length + 1) := by simp; omega
  have htx2 : ∀ x ∈ tkS [45] :: tkS [45] :: LL, x.text.length ≤ 140737488351232 := fun x hx => by
    rcases List.mem_cons.1 hx with rfl | hx
    · simp [tkS]
    · rcases List.mem_cons.1 hx with rfl | hx
      · simp [tkS]
      · exact htx x hx
  have hP7 := hP5.trans hp57
  have hA7 := hA5.mono hp57
  have hB7 := hB.mono hp57
  have hfa7 := look_prefix hp57 hfa
  have F := f18_ok (tkS [45] :: tkS [45] :: LL) (ρ7.length + 1) (2 + (1 + L.length + 1) + 1) true 4 (ρ7 ++ [none, some (⟨.int .i64 3 :: .string (str [45]) :: .int .i64 0 :: .int .i64 0 :: .int .i64 3 :: .string (str [45]) :: .int .i64 0 :: .int .i64 0 :: LL.flatMap Tk.cells, true, 4⟩ : Blk)]) (by rw [look_app_add]; rfl) (hG.mono (hP7.trans (List.prefix_append _ _))) (by rw [hlen2]; omega) htx2
  rw [hlen2] at F
  refine F.mono ?_
  clear F
  rintro v ρ8 ⟨hPc, hp8⟩
  obtain ⟨C, cv, cd3, ix3, rfl, hC, hbadC, hgoodC, hnoneC⟩ := parseV_split hPc
  have hP8 := (hP7.trans (List.prefix_append _ _)).trans hp8
  have hA8 := hA7.mono ((List.prefix_append _ _).trans hp8)
  have hB8 := hB7.mono ((List.prefix_append _ _).trans hp8)
  have hfa8 := look_prefix ((List.prefix_append _ _).trans hp8) hfa7
  clear hp8 hp57 hp7 hp6 hPc
  have tA : badTok L = none ∧ ∃ t, parseOf L = some t ∧ A = post t [] := by
    cases hb : badTok L with
    | some j => have := (hbadA j hb).2.1; omega
    | none =>
      cases hpp : parseOf L with
      | none => exact absurd c1 (hnoneA hb hpp).2.1
      | some t => exact ⟨rfl, t, rfl, (hgoodA hb t hpp).1⟩
  have tB : badTok LL = none ∧ ∃ t, parseOf LL = some t ∧ B = post t [] := by
    cases hb : badTok LL with
    | some j => have := (hbadB j hb).2.1; omega
    | none =>
      cases hpp : parseOf LL with
      | none => exact absurd c2 (hnoneB hb hpp).2.1
      | some t => exact ⟨rfl, t, rfl, (hgoodB hb t hpp).1⟩
  obtain ⟨_, t1, ht1, rfl⟩ := tA
  obtain ⟨_, t2, ht2, rfl⟩ := tB
  have e12 : t2 = t1 := spaces_par ht1 (by rw [← hLL]; exact ht2)
  subst e12
  have nA := parse_names ht1 ht
  have lA : (post t2 []).length ≤ 140737488351232 := by
    have := post_len t2 []
    have h60 := ((parse_nodes L t2).1 ht1).2
    simp at this
    omega
  simp only [go_sem, ↓reduceIte, Nat.reduceEqDiff, Nat.reduceAdd, Nat.reduceMul, Nat.reduceLT, Nat.reduceLeDiff, Int.reduceLT, Int.reduceLE, Int.reduceNeg, Int.reduceAdd, Int.reduceSub, Int.reduceMul, Int.reduceToNat, Int.reduceEq, Int.reduceNe, Int.cast_ofNat_Int, Int.natCast_one, Int.natCast_zero, Int.natCast_add, reduceCtorEq, faultV]
  refine (f24_nb XL (post t2 []) [] a (.slice none 0 0) _ (hA8.mono (List.prefix_append _ _)) (.inl ⟨rfl, rfl⟩) nA (by simp) lA (by simp)).mono ?_
  rintro _ ρ9 ⟨rfl, hp9⟩
  simp only [go_sem, ↓reduceIte, Nat.reduceEqDiff, Nat.reduceAdd, Nat.reduceMul, Nat.reduceLT, Nat.reduceLeDiff, Int.reduceLT, Int.reduceLE, Int.reduceNeg, Int.reduceAdd, Int.reduceSub, Int.reduceMul, Int.reduceToNat, Int.reduceEq, Int.reduceNe, Int.cast_ofNat_Int, Int.natCast_one, Int.natCast_zero, Int.natCast_add, reduceCtorEq, faultV, Lin.cells]
  have nC : (∀ x ∈ C, x.name.length ≤ 140737488351232) ∧ C.length ≤ 140737488351232 := by
    cases hb : badTok (tkS [45] :: tkS [45] :: LL) with
    | some j => obtain ⟨rfl, _⟩ := hbadC j hb; simp
    | none =>
      cases hpp : parseOf (tkS [45] :: tkS [45] :: LL) with
      | none => obtain ⟨rfl, _⟩ := hnoneC hb hpp; simp
      | some t =>
        obtain ⟨rfl, _⟩ := hgoodC hb t hpp
        refine ⟨parse_names hpp htx2, ?_⟩
        have := post_len t []
        have h60 := ((parse_nodes _ t).1 hpp).2
        simp at this
        omega
  refine (f24_nb XL C [] cv (.slice none 0 0) _ (hC.mono (((List.prefix_append _ _).trans hp9).trans (List.prefix_append _ _))) (.inl ⟨rfl, rfl⟩) nC.1 (by simp) nC.2 (by simp)).mono ?_
  rintro _ ρ10 ⟨rfl, hp10⟩
  simp only [go_sem, ↓reduceIte, Nat.reduceEqDiff, Nat.reduceAdd, Nat.reduceMul, Nat.reduceLT, Nat.reduceLeDiff, Int.reduceLT, Int.reduceLE, Int.reduceNeg, Int.reduceAdd, Int.reduceSub, Int.reduceMul, Int.reduceToNat, Int.reduceEq, Int.reduceNe, Int.cast_ofNat_Int, Int.natCast_one, Int.natCast_zero, Int.natCast_add, reduceCtorEq, faultV, Lin.cells]
  refine (f23_ok XL (post t2 []) (post t2 []) a b _ (hA8.mono ?q1) (hB8.mono ?q1) lA lA).mono ?_
  case q1 => exact ((((List.prefix_append _ _).trans hp9).trans (List.prefix_append _ _)).trans hp10).trans (List.prefix_append _ _)
  rintro _ ρ11 ⟨rfl, hp11⟩
  have hp10' := (List.prefix_append _ _).trans hp11
  have hp9' := ((List.prefix_append _ _).trans hp10).trans hp10'
  have hp8' := ((List.prefix_append _ _).trans hp9).trans hp9'
  have h10 := look_prefix (hp9.trans hp9') (show look _ ρ8.length = some _ by rw [look_app_new, look_zero])
  have h11 := look_prefix (hp10.trans hp10') (show look _ ρ9.length = some _ by rw [look_app_new, look_zero])
  have h12 := look_prefix (hp10.trans hp10') (show look _ (ρ9.length + 1) = some _ by rw [look_app_add]; rfl)
  have h13 := look_prefix hp11 (show look _ ρ10.length = some _ by rw [look_app_new, look_zero])
  have h14 := look_prefix hp11 (show look _ (ρ10.length + 1) = some _ by rw [look_app_add]; rfl)
  have hPe := hP8.trans hp8'
  have law : cd3 = 0 → (valueOf (post t2 []) []).2.1 = 0 → valueOf C [] = valueOf (post t2 []) [] := fun h3 hv => by
    cases hb : badTok (tkS [45] :: tkS [45] :: LL) with
    | some j => have := (hbadC j hb).2.1; omega
    | none =>
      cases hpp : parseOf (tkS [45] :: tkS [45] :: LL) with
      | none => exact absurd h3 (hnoneC hb hpp).2.1
      | some t =>
        obtain ⟨rfl, _⟩ := hgoodC hb t hpp
        exact spaces_neg ht1 (by rw [← hLL]; exact hpp) hv
  generalize ρ8.length = p10 at *
  generalize ρ9.length = p11 at *
  generalize ρ10.length = p13 at *
  by_cases c3 : cd3 = 0
  case neg =>
    simp only [go_sem, ↓reduceIte, Nat.reduceEqDiff, Nat.reduceAdd, Nat.reduceMul, Nat.reduceLT, Nat.reduceLeDiff, Int.reduceLT, Int.reduceLE, Int.reduceNeg, Int.reduceAdd, Int.reduceSub, Int.reduceMul, Int.reduceToNat, Int.reduceEq, Int.reduceNe, Int.cast_ofNat_Int, Int.natCast_one, Int.natCast_zero, Int.natCast_add, reduceCtorEq, h10, eq_false c3]
    exact hPe
  by_cases c4 : (valueOf (post t2 []) []).2.1 = 0
  case neg =>
    simp only [go_sem, ↓reduceIte, Nat.reduceEqDiff, Nat.reduceAdd, Nat.reduceMul, Nat.reduceLT, Nat.reduceLeDiff, Int.reduceLT, Int.reduceLE, Int.reduceNeg, Int.reduceAdd, Int.reduceSub, Int.reduceMul, Int.reduceToNat, Int.reduceEq, Int.reduceNe, Int.cast_ofNat_Int, Int.natCast_one, Int.natCast_zero, Int.natCast_add, reduceCtorEq, h10, h12, eq_true c3, eq_false c4]
    exact hPe
  have hv := law c3 c4
  rw [hv] at h13 h14
  simp only [go_sem, ↓reduceIte, Nat.reduceEqDiff, Nat.reduceAdd, Nat.reduceMul, Nat.reduceLT, Nat.reduceLeDiff, Int.reduceLT, Int.reduceLE, Int.reduceNeg, Int.reduceAdd, Int.reduceSub, Int.reduceMul, Int.reduceToNat, Int.reduceEq, Int.reduceNe, Int.cast_ofNat_Int, Int.natCast_one, Int.natCast_zero, Int.natCast_add, reduceCtorEq, h10, h11, h12, h13, h14, eq_true c3, eq_true c4]
  exact hPe
end Go.Proofs.YtkgdkommahgakaaDoor.Abs
