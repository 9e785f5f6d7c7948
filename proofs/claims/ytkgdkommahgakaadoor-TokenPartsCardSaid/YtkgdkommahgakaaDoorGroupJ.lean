/- Part GroupJ of the proof: an abstract machine for the program's calls, and what functions do on it. It has no conditions. -/
import Derived.Test.YtkgdkommahgakaaDoorGroupD
import Derived.Lib.AppendZerosOnto
import Derived.Lib.SliceRun
import Derived.Lib.Walk
import Derived.Test.YtkgdkommahgakaaDoorGroupI
/- A wider outside: slices.Grow at nil (f89), by the kit's own laws on append; runs go over from a narrower outside to a wider one. -/
namespace Go.Proofs.YtkgdkommahgakaaDoor.Abs
open Go Go.RowKit
set_option linter.unusedVariables false
set_option linter.unusedSimpArgs false
set_option maxRecDepth 100000

theorem Run.wider {P : Program} {X Y : Ext} (hXY : ∀ f args σ v σ', X f args σ v σ' → Y f args σ v σ') {j : Job} {σ : Heap} {o : Out} {σ' : Heap} (h : Run P X j σ o σ') : Run P Y j σ o σ' := by
  induction h with
  | skip => exact .skip
  | exit => exact .exit
  | ret => exact .ret
  | seqN _ _ ih ih' => exact .seqN ih ih'
  | seqX _ he ih => exact .seqX ih he
  | cond hc _ ih => exact .cond hc ih
  | block _ ih => exact .block ih
  | loopN _ _ ih ih' => exact .loopN ih ih'
  | loopX _ he ih => exact .loopX ih he
  | region _ ih => exact .region ih
  | regionDraw hd _ ih => exact .regionDraw hd ih
  | opsNil => exact .opsNil
  | opsSkip hw _ ih => exact .opsSkip hw ih
  | opsStep hw hv _ ih => exact .opsStep hw hv ih
  | opsCall hw ho hc hen _ _ ih ih' => exact .opsCall hw ho hc hen ih ih'
  | drawNil => exact .drawNil
  | drawSkip hw _ ih => exact .drawSkip hw ih
  | drawStep hw hv hq _ ih => exact .drawStep hw hv hq ih
  | drawCall hw ho hc hen _ hq _ ih ih' => exact .drawCall hw ho hc hen ih hq ih'
  | call hf hb hok hres hn _ he hr ih => exact .call hf hb hok hres hn ih he hr
  | ext h => exact .ext (hXY _ _ _ _ _ h)
theorem CW.wider {P : Program} {X Y : Ext} (hXY : ∀ f args σ v σ', X f args σ v σ' → Y f args σ v σ') {f : FuncId} {args : List Value} {σ : Heap} {K : Value → Heap → Prop} (h : CW P X f args σ K) : CW P Y f args σ K := by
  obtain ⟨h1, v, σ', h2, h3⟩ := h
  exact ⟨h1, v, σ', h2.wider hXY, h3⟩

theorem info31 : (Tryd.prog.info? 31).map (fun i => (i.zero, i.size, i.bytes)) = some (some (Value.agg #[.int .i64 0, .string ⟨#[]⟩, .int .i64 0, .int .i64 0]), 4, 40) := by kernel_rfl
theorem u22 : Tryd.prog.underlying 22 = some (.slice 31) := by kernel_rfl
theorem u3 : Tryd.prog.underlying 3 = some (.int .i64) := by kernel_rfl
theorem lib89 (n : Nat) (hn : 0 < n) (hb : n * 40 ≤ 140737488355328) (w : World) : Calls Tryd.prog 89 #[.slice none 0 0, .int .i64 n] w fun e w' =>
    e = .returned (.slice (some ⟨w.heap.size, 0, none⟩) 0 (grownCap w n 0 31)) ∧ w' = w.drew.alloc (.cells (#[] ++ Builtin.zeroCells #[.int .i64 0, .string ⟨#[]⟩, .int .i64 0, .int .i64 0] n ++ Builtin.zeroCells #[.int .i64 0, .string ⟨#[]⟩, .int .i64 0, .int .i64 0] (grownCap w n 0 31 - n)) 31) := by
  obtain ⟨i0, hi0, hi⟩ := Option.map_eq_some_iff.1 info31
  simp only [Prod.mk.injEq] at hi
  obtain ⟨hz0, hs0, hb0⟩ := hi
  have h1 : ¬ ((n : Int) < 0) := by omega
  have h2 : Go.RowKit.wrap64 ((n : Int) - 0) = (n : Int) := by unfold Go.RowKit.wrap64; omega
  have h4 : (n : Int) > 0 := by omega
  have hold : (Builtin.firstCells i0.size 0 (.slice none 0 0)).run Tryd.prog w.drew = .ok ([] : List Value).toArray w.drew := run_firstCells_none w.drew i0.size 0 0 0
  have hrz : ∀ ty, (Builtin.append_ #[22, 3] ty #[.slice none 0 0, .int .i64 n]).run Tryd.prog w =
      .ok (.slice (some ⟨w.heap.size, 0, none⟩) n (grownCap w n 0 31)) (w.drew.alloc (.cells (#[] ++ Builtin.zeroCells #[.int .i64 0, .string ⟨#[]⟩, .int .i64 0, .int .i64 0] n ++ Builtin.zeroCells #[.int .i64 0, .string ⟨#[]⟩, .int .i64 0, .int .i64 0] (grownCap w n 0 31 - n)) 31)) := fun ty => by
    have h := Lib.run_append_grow_zeros w 22 3 ty 31 i0 _ .i64 .i64 u22 u3 hi0 hz0 none 0 0 [] hold n hn (by omega) (by omega) (by omega) (by rw [hb0]; omega) (by rw [hb0]; exact growslice_fits (by omega) (by omega))
    simp only [Nat.zero_add] at h
    exact h
  have hGn : n ≤ grownCap w n 0 31 := grownCap_ge w _ _ _
  have hG63 := grownCap_le_maxLen w n 0 31 (by unfold maxLen; omega)
  generalize grownCap w n 0 31 = G at *
  clear hold
  go_enter Tryd.func89, Tryd.ntmps89
  go_wp2_with (at_builtin; refine Lib.wpList_append_run _ rfl _ _ _ _ rfl _ _ rfl rfl _ _ (hrz _) ?_)
  all_goals (go_ret; exact ⟨rfl, rfl⟩)
theorem lib89z (w : World) : Calls Tryd.prog 89 #[.slice none 0 0, .int .i64 0] w fun e w' => e = .returned (.slice none 0 0) ∧ w' = w := by
  go_enter Tryd.func89, Tryd.ntmps89
  go_wp2
  go_ret
  exact ⟨rfl, rfl⟩
/-- slices.Grow at nil: an empty row with room. -/
def XG : Ext := fun f args σ v σ' => f = 89 ∧ ∃ n : Nat, n * 40 ≤ 140737488355328 ∧ args = [.slice none 0 0, .int .i64 n] ∧ v = .slice (some ⟨σ.length, 0, none⟩) 0 1 ∧ σ' = σ ++ [some ⟨[], true, 4⟩]
theorem XG_sound : ∀ f args σ v σ', XG f args σ v σ' → ∀ base, CallSound Tryd.prog base f args σ v σ' ∧ σ.length ≤ σ'.length := by
  rintro f args σ v σ' ⟨rfl, n, hb, rfl, rfl, rfl⟩ base
  refine ⟨fun β w cargs hrel hs hf => ?_, by simp⟩
  obtain ⟨cl⟩ := cargs
  simp only at hrel
  obtain ⟨x, y, rfl, h, h2⟩ : ∃ x y, cl = [x, y] ∧ Rel β (.slice none 0 0) x ∧ Rel β (.int .i64 n) y := by
    match cl, hrel with
    | [x, y], .cons _ _ _ _ h (.cons _ _ _ _ h2 .nil) => exact ⟨x, y, rfl, h, h2⟩
  obtain rfl := h2.int_inv
  obtain rfl : x = .slice none 0 0 := by
    rcases h.slc_inv with ⟨_, _, _, rfl⟩ | ⟨_, h0, _⟩ | ⟨_, _, _, _, h0, _⟩
    · rfl
    · simp at h0
    · simp at h0
  have hfl : β σ.length = none := hf _ (Nat.le_refl _) (by simp)
  by_cases hn : n = 0
  · subst hn
    refine (lib89z w).mono fun e w' hh => ?_
    obtain ⟨rfl, rfl⟩ := hh
    obtain ⟨s1, s2⟩ := sim_empty hs hfl 4
    exact ⟨β, _, rfl, .slc0 _ _ _, s1, s2⟩
  · refine (lib89 n (by omega) hb w).mono fun e w' hh => ?_
    obtain ⟨rfl, rfl⟩ := hh
    have hGn : n ≤ grownCap w n 0 31 := grownCap_ge w _ _ _
    generalize grownCap w n 0 31 = G at *
    obtain ⟨s1, s2⟩ := sim_new (cells := []) (sz := 4) (e := 31) (c := #[] ++ Builtin.zeroCells #[.int .i64 0, .string ⟨#[]⟩, .int .i64 0, .int .i64 0] n ++ Builtin.zeroCells #[.int .i64 0, .string ⟨#[]⟩, .int .i64 0, .int .i64 0] (G - n))
      (w' := w.drew.alloc (.cells (#[] ++ Builtin.zeroCells #[.int .i64 0, .string ⟨#[]⟩, .int .i64 0, .int .i64 0] n ++ Builtin.zeroCells #[.int .i64 0, .string ⟨#[]⟩, .int .i64 0, .int .i64 0] (G - n)) 31)) hs hfl rfl rfl rfl rfl (by simp) (by simp) (by simp)
    refine ⟨_, _, rfl, .slc σ.length 0 0 1 G _ (Map.upd_same _ _ _) (by omega) (fun h => by omega) (fun _ => ?_), s1, s2⟩
    simp only [Array.size_append, Builtin.zeroCells]
    simp
    omega
def XM : Ext := fun f args σ v σ' => XL f args σ v σ' ∨ XG f args σ v σ'
theorem XM_sound : ∀ f args σ v σ', XM f args σ v σ' → ∀ base, CallSound Tryd.prog base f args σ v σ' ∧ σ.length ≤ σ'.length := by
  rintro f args σ v σ' (h | h) base
  · exact XL_sound f args σ v σ' h base
  · exact XG_sound f args σ v σ' h base
theorem xl_xm : ∀ f args σ v σ', XL f args σ v σ' → XM f args σ v σ' := fun _ _ _ _ _ h => .inl h
theorem f89_ok (n : Nat) (hb : n * 40 ≤ 140737488355328) (σ : Heap) : CW Tryd.prog XM 89 [.slice none 0 0, .int .i64 n] σ fun v σ' => v = .slice (some ⟨σ.length, 0, none⟩) 0 1 ∧ σ' = σ ++ [some ⟨[], true, 4⟩] :=
  ⟨by kernel_rfl, _, _, .ext (.inr ⟨rfl, n, hb, rfl, rfl, rfl⟩), rfl, rfl⟩
end Go.Proofs.YtkgdkommahgakaaDoor.Abs

/- expr.Tokens (f30), with slices.Concat (f59). -/
namespace Go.Proofs.YtkgdkommahgakaaDoor.Abs
open Go Go.RowKit Gram
set_option linter.unusedVariables false
set_option linter.unusedSimpArgs false
set_option maxRecDepth 100000

/-- A whole block of tokens. -/
def TB (σ : Heap) (L : List Tk) (v : Value) : Prop := ∃ m c ow, v = .slice (some ⟨m, 0, none⟩) L.length c ∧ look σ m = some ⟨L.flatMap Tk.cells, ow, 4⟩
theorem TB.mono {σ σ' : Heap} {L : List Tk} {v : Value} (h : TB σ L v) (hp : σ <+: σ') : TB σ' L v := by
  obtain ⟨m, c, ow, h1, h2⟩ := h
  exact ⟨m, c, ow, h1, look_prefix hp h2⟩
theorem TB.len {σ : Heap} {L : List Tk} {v : Value} (h : TB σ L v) : alen Tryd.prog #[22] [v] = some (.int .i64 L.length) := by
  obtain ⟨m, c, ow, rfl, _⟩ := h
  exact ln22
theorem TB.src {σ : Heap} {L : List Tk} {v : Value} (h : TB σ L v) : asrc σ 4 v = some (L.length, L.flatMap Tk.cells) := by
  obtain ⟨m, c, ow, rfl, h⟩ := h
  rw [src_ptr h (by rw [Tk.len]; omega), List.drop_zero, List.take_of_length_le (by rw [Tk.len]; omega)]
theorem sum_take {Ls : List (List Tk)} {i : Nat} {L : List Tk} (h : Ls[i]? = some L) : ((Ls.take (i + 1)).map List.length).sum = ((Ls.take i).map List.length).sum + L.length := by
  rw [List.take_add_one, h]
  simp
theorem sum_take_le (Ls : List (List Tk)) (i : Nat) : ((Ls.take i).map List.length).sum ≤ (Ls.map List.length).sum := by
  have : (Ls.map List.length).sum = ((Ls.take i).map List.length).sum + ((Ls.drop i).map List.length).sum := by
    rw [← List.sum_append, ← List.map_append, List.take_append_drop]
  omega
theorem flat_len (Ls : List (List Tk)) : Ls.flatten.length = (Ls.map List.length).sum := List.length_flatten
theorem flat_take {Ls : List (List Tk)} {i : Nat} {L : List Tk} (h : Ls[i]? = some L) : (Ls.take (i + 1)).flatten = (Ls.take i).flatten ++ L := by
  rw [List.take_add_one, h]
  simp
set_option maxHeartbeats 2000000 in
theorem f59_ok (Ls : List (List Tk)) (vs : List Value) (n c la : Nat) (ow : Bool) (sz : Nat) (σ : Heap) (hl : look σ n = some ⟨vs, ow, sz⟩) (hla : la = Ls.length) (hn : Ls.length ≤ 1000) (hv : vs.length = Ls.length)
    (hT : ∀ (i : Nat) (L : List Tk) (v : Value), Ls[i]? = some L → vs[i]? = some v → TB σ L v) (htot : (Ls.map List.length).sum ≤ 100000000) :
    CW Tryd.prog XM 59 [.slice (some ⟨n, 0, none⟩) la c] σ fun v σ' => σ <+: σ' ∧ ∃ q c', σ.length ≤ q ∧ v = .slice (some ⟨q, 0, none⟩) Ls.flatten.length c' ∧ look σ' q = some ⟨Ls.flatten.flatMap Tk.cells, true, 4⟩ := by
  subst hla
  refine cw_in Tryd.func59 rfl Tryd.ntmps59 (rs := [.tmp 2]) rfl (by kernel_rfl) (by exact Nat.le_of_ble_eq_true rfl) ?_
  simp only [go_sem, ↓reduceIte, Nat.reduceEqDiff, Nat.reduceAdd, Nat.reduceMul, Nat.reduceLT, Nat.reduceLeDiff, Int.reduceLT, Int.reduceLE, Int.reduceNeg, Int.reduceAdd, Int.reduceSub, Int.reduceMul, Int.reduceToNat, Int.reduceEq, Int.reduceNe, Int.cast_ofNat_Int, Int.natCast_one, Int.natCast_zero, Int.natCast_add, reduceCtorEq]
  refine LW_run (fun k T ρ => ∃ i : Nat, i + k = Ls.length ∧ σ = ρ ∧ T 0 = .slice (some ⟨n, 0, none⟩) Ls.length c ∧ T 9 = .slice (some ⟨n, 0, none⟩) Ls.length c ∧ T 10 = .int .i64 Ls.length ∧ T 11 = .int .i64 i ∧ T 3 = .int .i64 ((Ls.take i).map List.length).sum) Ls.length ⟨0, by simp, rfl, rfl, rfl, rfl, rfl, rfl⟩ ?_
  rintro k T _ ⟨i, hk, rfl, t0, t9, t10, t11, t3⟩
  simp only [go_sem, ↓reduceIte, Nat.reduceEqDiff, Nat.reduceAdd, Nat.reduceMul, Nat.reduceLT, Nat.reduceLeDiff, Int.reduceLT, Int.reduceLE, Int.reduceNeg, Int.reduceAdd, Int.reduceSub, Int.reduceMul, Int.reduceToNat, Int.reduceEq, Int.reduceNe, Int.cast_ofNat_Int, Int.natCast_one, Int.natCast_zero, Int.natCast_add, reduceCtorEq, t0, t9, t10, t11, t3]
  refine fork_dec (fun _ => ?_) (fun _ => ?_)
  · rename_i hi
    obtain ⟨L, hL⟩ : ∃ L, Ls[i]? = some L := ⟨_, List.getElem?_eq_getElem (by omega)⟩
    obtain ⟨v, hvi⟩ : ∃ v, vs[i]? = some v := ⟨_, List.getElem?_eq_getElem (by omega)⟩
    have hb := hT i L v hL hvi
    have hlen := hb.len
    have hs := sum_take hL
    have hs2 := sum_take_le Ls (i + 1)
    have hw : IntKind.i64.wrap ((i : Int) + 1) = (i : Int) + 1 := wrap64 (by omega)
    have hw2 : IntKind.i64.wrap ((((Ls.take i).map List.length).sum : Int) + (L.length : Int)) = (((Ls.take (i + 1)).map List.length).sum : Int) := by rw [hs, wrap64 (by omega)]; omega
    simp only [go_sem, ↓reduceIte, Nat.reduceEqDiff, Nat.reduceAdd, Nat.reduceMul, Nat.reduceLT, Nat.reduceLeDiff, Int.reduceLT, Int.reduceLE, Int.reduceNeg, Int.reduceAdd, Int.reduceSub, Int.reduceMul, Int.reduceToNat, Int.reduceEq, Int.reduceNe, Int.cast_ofNat_Int, Int.natCast_one, Int.natCast_zero, Int.natCast_add, reduceCtorEq, t0, t9, t10, t11, t3, hi, hl, hvi, hlen, hw, hw2, eq_false (show ¬ (((Ls.take (i + 1)).map List.length).sum : Int) < 0 by omega)]
    refine ⟨k - 1, by omega, i + 1, by omega, ?_⟩
    (repeat' (first | exact rfl | apply And.intro))
  · rename_i hi
    rw [List.take_of_length_le (by omega)] at t3
    simp only [go_sem, ↓reduceIte, Nat.reduceEqDiff, Nat.reduceAdd, Nat.reduceMul, Nat.reduceLT, Nat.reduceLeDiff, Int.reduceLT, Int.reduceLE, Int.reduceNeg, Int.reduceAdd, Int.reduceSub, Int.reduceMul, Int.reduceToNat, Int.reduceEq, Int.reduceNe, Int.cast_ofNat_Int, Int.natCast_one, Int.natCast_zero, Int.natCast_add, reduceCtorEq, t0, t9, t10, t11, t3]
    refine (f89_ok _ (by omega) _).mono ?_
    rintro _ _ ⟨rfl, rfl⟩
    simp only [go_sem, ↓reduceIte, Nat.reduceEqDiff, Nat.reduceAdd, Nat.reduceMul, Nat.reduceLT, Nat.reduceLeDiff, Int.reduceLT, Int.reduceLE, Int.reduceNeg, Int.reduceAdd, Int.reduceSub, Int.reduceMul, Int.reduceToNat, Int.reduceEq, Int.reduceNe, Int.cast_ofNat_Int, Int.natCast_one, Int.natCast_zero, Int.natCast_add, reduceCtorEq, t0]
    have hn2 := look_lt hl
    refine LW_run (fun k T ρ => ∃ (i q c' : Nat), i + k = Ls.length ∧ σ <+: ρ ∧ T 25 = .slice (some ⟨n, 0, none⟩) Ls.length c ∧ T 26 = .int .i64 Ls.length ∧ T 27 = .int .i64 i ∧ T 6 = .slice (some ⟨q, 0, none⟩) (Ls.take i).flatten.length (c' + 1) ∧ σ.length ≤ q ∧ look ρ q = some ⟨(Ls.take i).flatten.flatMap Tk.cells, true, 4⟩) Ls.length ⟨0, σ.length, 0, by simp, List.prefix_append _ _, rfl, rfl, rfl, rfl, Nat.le_refl _, by rw [look_app_new, look_zero]; rfl⟩ ?_
    rintro k T ρ ⟨i, q, c', hk, hp, t25, t26, t27, t6, hq, hlq⟩
    have hl' := look_prefix hp hl
    have hql := look_lt hlq
    simp only [go_sem, ↓reduceIte, Nat.reduceEqDiff, Nat.reduceAdd, Nat.reduceMul, Nat.reduceLT, Nat.reduceLeDiff, Int.reduceLT, Int.reduceLE, Int.reduceNeg, Int.reduceAdd, Int.reduceSub, Int.reduceMul, Int.reduceToNat, Int.reduceEq, Int.reduceNe, Int.cast_ofNat_Int, Int.natCast_one, Int.natCast_zero, Int.natCast_add, reduceCtorEq, t25, t26, t27, t6]
    refine fork_dec (fun _ => ?_) (fun _ => ?_)
    · rename_i hi
      obtain ⟨L, hL⟩ : ∃ L, Ls[i]? = some L := ⟨_, List.getElem?_eq_getElem (by omega)⟩
      obtain ⟨v, hvi⟩ : ∃ v, vs[i]? = some v := ⟨_, List.getElem?_eq_getElem (by omega)⟩
      have hb := (hT i L v hL hvi).mono hp
      have hsrc := hb.src
      have hs := sum_take hL
      have hs2 := sum_take_le Ls (i + 1)
      have hf1 := flat_len (Ls.take i)
      have hfl := Tk.len (Ls.take i).flatten
      have hw : IntKind.i64.wrap ((i : Int) + 1) = (i : Int) + 1 := wrap64 (by omega)
      simp only [go_sem, ↓reduceIte, Nat.reduceEqDiff, Nat.reduceAdd, Nat.reduceMul, Nat.reduceLT, Nat.reduceLeDiff, Int.reduceLT, Int.reduceLE, Int.reduceNeg, Int.reduceAdd, Int.reduceSub, Int.reduceMul, Int.reduceToNat, Int.reduceEq, Int.reduceNe, Int.cast_ofNat_Int, Int.natCast_one, Int.natCast_zero, Int.natCast_add, reduceCtorEq, t25, t26, t27, t6, hi, hl', hvi, hw, hsrc, hlq, hfl, eq_true (show ((Ls.take i).flatten.length + L.length + 410) * 40 ≤ 225179981368524 by omega)]
      refine ⟨k - 1, by omega, i + 1, List.length ρ, (Ls.take i).flatten.length + L.length, by omega, (prefix_set hp hq).trans (List.prefix_append _ _), ?_⟩
      rw [flat_take hL, List.length_append, List.flatMap_append]
      (repeat' (first | exact rfl | apply And.intro))
      · exact hp.length_le
      · rw [lsn, look_zero]
    · rename_i hi
      simp only [go_sem, ↓reduceIte, Nat.reduceEqDiff, Nat.reduceAdd, Nat.reduceMul, Nat.reduceLT, Nat.reduceLeDiff, Int.reduceLT, Int.reduceLE, Int.reduceNeg, Int.reduceAdd, Int.reduceSub, Int.reduceMul, Int.reduceToNat, Int.reduceEq, Int.reduceNe, Int.cast_ofNat_Int, Int.natCast_one, Int.natCast_zero, Int.natCast_add, reduceCtorEq, t6]
      rw [List.take_of_length_le (by omega)] at hlq ⊢
      exact ⟨hp, q, _, hq, rfl, hlq⟩
theorem f57_ok (X : Ext) (s : List UInt8) (σ : Heap) : CW Tryd.prog X 57 [.string (str s)] σ fun v σ' => v = .agg (tkS s).cells.toArray ∧ σ <+: σ' := by
  refine cw_in Tryd.func57 rfl Tryd.ntmps57 (rs := [.cell 2 31]) rfl (by kernel_rfl) (by exact Nat.le_of_ble_eq_true rfl) ?_
  simp only [go_sem, ↓reduceIte, Nat.reduceEqDiff, Nat.reduceAdd, Nat.reduceMul, Nat.reduceLT, Nat.reduceLeDiff, Int.reduceLT, Int.reduceLE, Int.reduceNeg, Int.reduceAdd, Int.reduceSub, Int.reduceMul, Int.reduceToNat, Int.reduceEq, Int.reduceNe, Int.cast_ofNat_Int, Int.natCast_one, Int.natCast_zero, Int.natCast_add, reduceCtorEq]
  exact ⟨rfl, List.prefix_append _ _⟩
theorem f58_ok (X : Ext) (k : Int) (σ : Heap) : CW Tryd.prog X 58 [.int .i64 k] σ fun v σ' => v = .bool (decide (k = 3 ∨ k = 4)) ∧ σ' = σ := by
  refine cw_in Tryd.func58 rfl Tryd.ntmps58 (rs := [.tmp 2]) rfl (by kernel_rfl) (by exact Nat.le_of_ble_eq_true rfl) ?_
  by_cases h : k = 3
  · simp only [go_sem, ↓reduceIte, Nat.reduceEqDiff, Nat.reduceAdd, Nat.reduceMul, Nat.reduceLT, Nat.reduceLeDiff, Int.reduceLT, Int.reduceLE, Int.reduceNeg, Int.reduceAdd, Int.reduceSub, Int.reduceMul, Int.reduceToNat, Int.reduceEq, Int.reduceNe, Int.cast_ofNat_Int, Int.natCast_one, Int.natCast_zero, Int.natCast_add, reduceCtorEq, eq_true h]
  · by_cases h4 : k = 4
    · simp only [go_sem, ↓reduceIte, Nat.reduceEqDiff, Nat.reduceAdd, Nat.reduceMul, Nat.reduceLT, Nat.reduceLeDiff, Int.reduceLT, Int.reduceLE, Int.reduceNeg, Int.reduceAdd, Int.reduceSub, Int.reduceMul, Int.reduceToNat, Int.reduceEq, Int.reduceNe, Int.cast_ofNat_Int, Int.natCast_one, Int.natCast_zero, Int.natCast_add, reduceCtorEq, eq_false h, eq_true h4]
    · simp only [go_sem, ↓reduceIte, Nat.reduceEqDiff, Nat.reduceAdd, Nat.reduceMul, Nat.reduceLT, Nat.reduceLeDiff, Int.reduceLT, Int.reduceLE, Int.reduceNeg, Int.reduceAdd, Int.reduceSub, Int.reduceMul, Int.reduceToNat, Int.reduceEq, Int.reduceNe, Int.cast_ofNat_Int, Int.natCast_one, Int.natCast_zero, Int.natCast_add, reduceCtorEq, eq_false h, eq_false h4, or_self]
end Go.Proofs.YtkgdkommahgakaaDoor.Abs

/- expr.Tokens (f30). -/
namespace Go.Proofs.YtkgdkommahgakaaDoor.Abs
open Go Go.RowKit Gram
set_option linter.unusedVariables false
set_option linter.unusedSimpArgs false
set_option maxRecDepth 100000

def toks (E : List Nd) (i : Nat) : List Tk := toksF E (i + 1) i
theorem toksF_fuel {E : List Nd} (hE : validE E) : ∀ (F G i : Nat), i < F → i < G → i < E.length → toksF E F i = toksF E G i := by
  intro F
  induction F with
  | zero => intro G i h; omega
  | succ F ih =>
    intro G i h1 h2 h3
    cases G with
    | zero => omega
    | succ G =>
      obtain ⟨x, hx⟩ : ∃ x, E[i]? = some x := ⟨_, List.getElem?_eq_getElem h3⟩
      obtain ⟨n1, n2, n3, n4, n5⟩ := nodeErr_zero (hE i x hx)
      unfold toksF
      simp only [hx]
      by_cases k1 : x.kind = 1
      · rw [if_pos k1, if_pos k1]
      rw [if_neg k1, if_neg k1]
      by_cases k2 : x.kind = 2
      · rw [if_pos k2, if_pos k2]
      rw [if_neg k2, if_neg k2]
      obtain ⟨l0, l1⟩ := n4 (by omega)
      have hL := ih G x.left.toNat (by omega) (by omega) (by omega)
      by_cases k3 : x.kind = 3
      · rw [if_pos k3, if_pos k3, hL]
      rw [if_neg k3, if_neg k3]
      by_cases k4 : x.kind = 4
      · rw [if_pos k4, if_pos k4, hL]
      rw [if_neg k4, if_neg k4]
      obtain ⟨r0, r1⟩ := n5 (by omega)
      rw [hL, ih G x.right.toNat (by omega) (by omega) (by omega)]
theorem toks_eq {E : List Nd} (hE : validE E) {i : Nat} {x : Nd} (hx : E[i]? = some x) : toks E i = if x.kind = 1 then [⟨2, [], x.value, 0⟩] else if x.kind = 2 then [⟨1, x.name, 0, 0⟩]
      else if x.kind = 3 then tkS [45] :: toks E x.left.toNat else if x.kind = 4 then tkS [126] :: toks E x.left.toNat
      else tkS [40] :: ((toks E x.left.toNat ++ tkS (ops.getD (x.kind - 5).toNat []) :: toks E x.right.toNat) ++ [tkS [41]]) := by
  have hi := (List.getElem?_eq_some_iff.1 hx).1
  obtain ⟨n1, n2, n3, n4, n5⟩ := nodeErr_zero (hE i x hx)
  conv => lhs; unfold toks toksF
  simp only [hx]
  by_cases k1 : x.kind = 1
  · rw [if_pos k1, if_pos k1]
  rw [if_neg k1, if_neg k1]
  by_cases k2 : x.kind = 2
  · rw [if_pos k2, if_pos k2]
  rw [if_neg k2, if_neg k2]
  obtain ⟨l0, l1⟩ := n4 (by omega)
  have hL : toksF E i x.left.toNat = toks E x.left.toNat := toksF_fuel hE i _ x.left.toNat (by omega) (by omega) (by omega)
  by_cases k3 : x.kind = 3
  · rw [if_pos k3, if_pos k3, hL]
  rw [if_neg k3, if_neg k3]
  by_cases k4 : x.kind = 4
  · rw [if_pos k4, if_pos k4, hL]
  rw [if_neg k4, if_neg k4]
  obtain ⟨r0, r1⟩ := n5 (by omega)
  rw [hL, show toksF E i x.right.toNat = toks E x.right.toNat from toksF_fuel hE i _ x.right.toNat (by omega) (by omega) (by omega)]
/-- A whole block of tokens, another one than p. -/
def TBn (p : Nat) (σ : Heap) (L : List Tk) (v : Value) : Prop := ∃ m c ow, p < m ∧ v = .slice (some ⟨m, 0, none⟩) L.length c ∧ look σ m = some ⟨L.flatMap Tk.cells, ow, 4⟩
theorem TBn.mono {p : Nat} {σ σ' : Heap} {L : List Tk} {v : Value} (h : TBn p σ L v) (hp : σ <+: σ') : TBn p σ' L v := by
  obtain ⟨m, c, ow, h0, h1, h2⟩ := h
  exact ⟨m, c, ow, h0, h1, look_prefix hp h2⟩
theorem TBn.set {p q : Nat} {σ : Heap} {L : List Tk} {v : Value} {b : Option Blk} (h : TBn p σ L v) (hq : q ≤ p) : TBn p (σ.set q b) L v := by
  obtain ⟨m, c, ow, h0, h1, h2⟩ := h
  exact ⟨m, c, ow, h0, h1, (look_set_ne (by omega)).trans h2⟩
theorem TBn.tb {p : Nat} {σ : Heap} {L : List Tk} {v : Value} (h : TBn p σ L v) : TB σ L v := by
  obtain ⟨m, c, ow, h0, h1, h2⟩ := h
  exact ⟨m, c, ow, h1, h2⟩
/-- The parts that are there. -/
def Parts (E : List Nd) (p i : Nat) (ρ : Heap) : Prop := ∃ vs, look ρ p = some ⟨vs, true, 1⟩ ∧ vs.length = E.length ∧ ∀ j, j < i → (toks E j).length ≤ 8000 ∧ ∃ v, vs[j]? = some v ∧ TBn p ρ (toks E j) v
theorem op_at {m : Nat} (h : m < 10) : ([.string ⟨#[43]⟩, .string ⟨#[45]⟩, .string ⟨#[42]⟩, .string ⟨#[47]⟩, .string ⟨#[37]⟩, .string ⟨#[60, 60]⟩, .string ⟨#[62, 62]⟩, .string ⟨#[38]⟩, .string ⟨#[94]⟩, .string ⟨#[124]⟩] : List Value)[m]? = some (.string (str (ops.getD m []))) := by
  rcases (show m = 0 ∨ m = 1 ∨ m = 2 ∨ m = 3 ∨ m = 4 ∨ m = 5 ∨ m = 6 ∨ m = 7 ∨ m = 8 ∨ m = 9 by omega) with rfl | rfl | rfl | rfl | rfl | rfl | rfl | rfl | rfl | rfl <;> rfl
theorem parts_next {E : List Nd} {p i : Nat} {ρ X : Heap} {vs : List Value} {v : Value} (hvs : look ρ p = some ⟨vs, true, 1⟩) (hvl : vs.length = E.length) (hvt : ∀ j, j < i → (toks E j).length ≤ 8000 ∧ ∃ v, vs[j]? = some v ∧ TBn p ρ (toks E j) v)
    (hX : ρ <+: X) (hv : TBn p X (toks E i) v) (h8 : (toks E i).length ≤ 8000) (hi : i < E.length) : Parts E p (i + 1) (X.set p (some ⟨vs.set i v, true, 1⟩)) := by
  have hpl := look_lt hvs
  have hle := hX.length_le
  refine ⟨vs.set i v, by rw [look_set (by omega), if_pos rfl], by rw [List.length_set]; exact hvl, fun j hj => ?_⟩
  by_cases hji : j = i
  · subst hji
    exact ⟨h8, v, by rw [List.getElem?_set_self (by omega)], hv.set (Nat.le_refl _)⟩
  · obtain ⟨h1, u, h2, h3⟩ := hvt j (by omega)
    exact ⟨h1, u, by rw [List.getElem?_set_ne (Ne.symm hji)]; exact h2, (h3.mono hX).set (Nat.le_refl _)⟩
def TokensV (E : List Nd) (v : Value) (σ' : Heap) : Prop :=
  ((exprFault E).1 ≠ 0 ∧ v = .tuple #[.slice none 0 0, faultV (exprFault E)]) ∨
  ((exprFault E).1 = 0 ∧ (∃ i, i < E.length ∧ 8000 < (toks E i).length) ∧ v = .tuple #[.slice none 0 0, faultV (10, -3)]) ∨
  ((exprFault E).1 = 0 ∧ (∀ i, i < E.length → (toks E i).length ≤ 8000) ∧ ∃ tv, v = .tuple #[tv, faultV (0, 0)] ∧ TB σ' (toks E (E.length - 1)) tv)
set_option maxHeartbeats 4000000 in
theorem f30_ok (E : List Nd) (n c : Nat) (ow : Bool) (sz : Nat) (σ : Heap) (hl : look σ n = some ⟨E.flatMap Nd.cells, ow, sz⟩) (ht : ∀ x ∈ E, x.name.length ≤ 140737488351232) (hz : E.length ≤ 140737488351232) :
    CW Tryd.prog XM 30 [.slice (some ⟨n, 0, none⟩) E.length c] σ fun v σ' => TokensV E v σ' ∧ σ <+: σ' := by
  refine cw_in Tryd.func30 rfl Tryd.ntmps30 (rs := [.tmp 2, .cell 3 26]) rfl (by kernel_rfl) (by exact Nat.le_of_ble_eq_true rfl) ?_
  have hn := look_lt hl
  have hel := Nd.len E
  simp only [go_sem, ↓reduceIte, Nat.reduceEqDiff, Nat.reduceAdd, Nat.reduceMul, Nat.reduceLT, Nat.reduceLeDiff, Int.reduceLT, Int.reduceLE, Int.reduceNeg, Int.reduceAdd, Int.reduceSub, Int.reduceMul, Int.reduceToNat, Int.reduceEq, Int.reduceNe, Int.cast_ofNat_Int, Int.natCast_one, Int.natCast_zero, Int.natCast_add, reduceCtorEq]
  refine (f26_ok XM E n c ow sz _ ((look_app_lt hn).trans hl) ht E.length rfl hz).mono ?_
  rintro _ ρ0 ⟨rfl, hp0⟩
  have h3 := look_prefix hp0 (show look _ σ.length = some _ by rw [look_app_new, look_zero])
  have hpp := (List.prefix_append _ _).trans hp0
  have h3l := look_lt h3
  by_cases he : (exprFault E).1 = 0
  case neg =>
    simp only [go_sem, ↓reduceIte, Nat.reduceEqDiff, Nat.reduceAdd, Nat.reduceMul, Nat.reduceLT, Nat.reduceLeDiff, Int.reduceLT, Int.reduceLE, Int.reduceNeg, Int.reduceAdd, Int.reduceSub, Int.reduceMul, Int.reduceToNat, Int.reduceEq, Int.reduceNe, Int.cast_ofNat_Int, Int.natCast_one, Int.natCast_zero, Int.natCast_add, reduceCtorEq, faultV, he, look_app_lt h3l, h3, set_app_lt h3l, lsa h3l h3l, look_set h3l]
    refine And.intro (quiet_late (by kernel_rfl) [4] [3] (by kernel_rfl) (by kernel_rfl) (by simp [putT, ptrOf]; omega)) ?_
    exact ⟨.inl ⟨he, rfl⟩, (prefix_set hpp (Nat.le_refl _)).trans (List.prefix_append _ _)⟩
  obtain ⟨he0, he1, he2, he3⟩ := exprFault_zero he
  have hE : validE E := he3
  simp only [go_sem, ↓reduceIte, Nat.reduceEqDiff, Nat.reduceAdd, Nat.reduceMul, Nat.reduceLT, Nat.reduceLeDiff, Int.reduceLT, Int.reduceLE, Int.reduceNeg, Int.reduceAdd, Int.reduceSub, Int.reduceMul, Int.reduceToNat, Int.reduceEq, Int.reduceNe, Int.cast_ofNat_Int, Int.natCast_one, Int.natCast_zero, Int.natCast_add, reduceCtorEq, faultV, he0, eq_true (show (E.length : Int) ≤ 140737488355328 ∧ (E.length : Int) * 24 ≤ 140737488355328 by omega)]
  have hp1 : look (ρ0 ++ [some ⟨[.int .i64 0, .int .i64 0], true, 0⟩, some ⟨(List.replicate E.length [Value.slice none 0 0]).flatten, true, 1⟩]) (ρ0.length + 1) = some ⟨(List.replicate E.length [Value.slice none 0 0]).flatten, true, 1⟩ := by
    rw [look_app_add]; rfl
  refine LW_run (fun k T ρ => ∃ (i : Nat), i + k = E.length ∧ ρ0 <+: ρ ∧ T 0 = .slice (some ⟨n, 0, none⟩) E.length c ∧ T 3 = .pointer (some ⟨σ.length, 0, none⟩) ∧ T 5 = .func (.func 57) #[] #[] ∧ T 6 = .slice (some ⟨ρ0.length + 1, 0, none⟩) E.length E.length ∧ T 20 = .slice (some ⟨n, 0, none⟩) E.length c ∧ T 21 = .int .i64 E.length ∧ T 22 = .int .i64 i ∧ Parts E (ρ0.length + 1) i ρ) E.length
    ⟨0, by simp, List.prefix_append _ _, rfl, rfl, rfl, rfl, rfl, rfl, rfl, _, hp1, by simp, fun j hj => by omega⟩ ?_
  clear hp1
  rintro k T ρ ⟨i, hk, hp, t0, t3, t5, t6, t20, t21, t22, vs, hvs, hvl, hvt⟩
  have hl1 := look_prefix (hpp.trans hp) hl
  have h31 := look_prefix hp h3
  have hpl := look_lt hvs
  generalize hpe : ρ0.length + 1 = p at *
  simp only [go_sem, ↓reduceIte, Nat.reduceEqDiff, Nat.reduceAdd, Nat.reduceMul, Nat.reduceLT, Nat.reduceLeDiff, Int.reduceLT, Int.reduceLE, Int.reduceNeg, Int.reduceAdd, Int.reduceSub, Int.reduceMul, Int.reduceToNat, Int.reduceEq, Int.reduceNe, Int.cast_ofNat_Int, Int.natCast_one, Int.natCast_zero, Int.natCast_add, reduceCtorEq, t0, t3, t5, t6, t20, t21, t22]
  refine fork_dec (fun _ => ?_) (fun _ => ?_)
  case refine_2 =>
    rename_i hi
    have hii : i = E.length := by omega
    obtain ⟨hlen8, v, hv1, hv2⟩ := hvt (E.length - 1) (by omega)
    have hw1 : IntKind.i64.wrap ((E.length : Int) - 1) = ((E.length - 1 : Nat) : Int) := by rw [wrap64 (by omega)]; omega
    have h31l := look_lt h31
    have hlt : ((E.length - 1 : Nat) : Int) < (E.length : Int) := by omega
    generalize hE1 : E.length - 1 = e1 at *
    simp only [go_sem, ↓reduceIte, Nat.reduceEqDiff, Nat.reduceAdd, Nat.reduceMul, Nat.reduceLT, Nat.reduceLeDiff, Int.reduceLT, Int.reduceLE, Int.reduceNeg, Int.reduceAdd, Int.reduceSub, Int.reduceMul, Int.reduceToNat, Int.reduceEq, Int.reduceNe, Int.cast_ofNat_Int, Int.natCast_one, Int.natCast_zero, Int.natCast_add, reduceCtorEq, t0, t3, t5, t6, t20, t21, t22, hw1, hlt, hvs, hv1, look_set h31l, h31]
    refine ⟨.inr (.inr ⟨he, fun j hj => (hvt j (by omega)).1, v, rfl, ?_⟩), prefix_set (hpp.trans hp) (Nat.le_refl _)⟩
    rw [hE1]
    exact (hv2.set (by omega)).tb
  rename_i hi
  obtain ⟨x, hx⟩ : ∃ x, E[i]? = some x := ⟨_, List.getElem?_eq_getElem (by omega)⟩
  have hxt := toks_eq hE hx
  obtain ⟨n1, n2, n3, n4, n5⟩ := nodeErr_zero (he3 i x hx)
  have hw : IntKind.i64.wrap ((i : Int) + 1) = (i : Int) + 1 := wrap64 (by omega)
  simp only [go_sem, ↓reduceIte, Nat.reduceEqDiff, Nat.reduceAdd, Nat.reduceMul, Nat.reduceLT, Nat.reduceLeDiff, Int.reduceLT, Int.reduceLE, Int.reduceNeg, Int.reduceAdd, Int.reduceSub, Int.reduceMul, Int.reduceToNat, Int.reduceEq, Int.reduceNe, Int.cast_ofNat_Int, Int.natCast_one, Int.natCast_zero, Int.natCast_add, reduceCtorEq, t0, t3, t5, t6, t20, t21, t22, hi, hl1, Nd.take hx, hel, show i * 5 + 5 ≤ E.length * 5 by omega, Nd.cells]
  by_cases k1 : x.kind = 1
  · rw [if_pos k1] at hxt
    simp only [go_sem, ↓reduceIte, Nat.reduceEqDiff, Nat.reduceAdd, Nat.reduceMul, Nat.reduceLT, Nat.reduceLeDiff, Int.reduceLT, Int.reduceLE, Int.reduceNeg, Int.reduceAdd, Int.reduceSub, Int.reduceMul, Int.reduceToNat, Int.reduceEq, Int.reduceNe, Int.cast_ofNat_Int, Int.natCast_one, Int.natCast_zero, Int.natCast_add, reduceCtorEq, t0, t3, t5, t6, t20, t21, t22, k1, hi, look_app_lt hpl, hvs, eq_true (show i + 1 ≤ vs.length by omega), set_app_lt hpl, lsa hpl hpl, List.length_set, List.getElem?_set_self (show i < vs.length by omega), hw]
    rw [← set_app_lt hpl]
    refine ⟨k - 1, by omega, i + 1, by omega, prefix_set (hp.trans (List.prefix_append _ _)) (by omega), rfl, ?_⟩
    refine parts_next hvs hvl hvt (List.prefix_append _ _) ⟨ρ.length + 1, 1, true, by omega, by rw [hxt]; rfl, ?_⟩ (by rw [hxt]; simp) (by omega)
    rw [look_app_add, hxt]
    rfl
  by_cases k2 : x.kind = 2
  · rw [if_neg k1, if_pos k2] at hxt
    simp only [go_sem, ↓reduceIte, Nat.reduceEqDiff, Nat.reduceAdd, Nat.reduceMul, Nat.reduceLT, Nat.reduceLeDiff, Int.reduceLT, Int.reduceLE, Int.reduceNeg, Int.reduceAdd, Int.reduceSub, Int.reduceMul, Int.reduceToNat, Int.reduceEq, Int.reduceNe, Int.cast_ofNat_Int, Int.natCast_one, Int.natCast_zero, Int.natCast_add, reduceCtorEq, t0, t3, t5, t6, t20, t21, t22, k2, hi, look_app_lt hpl, hvs, eq_true (show i + 1 ≤ vs.length by omega), set_app_lt hpl, lsa hpl hpl, List.length_set, List.getElem?_set_self (show i < vs.length by omega), hw]
    rw [← set_app_lt hpl]
    refine ⟨k - 1, by omega, i + 1, by omega, prefix_set (hp.trans (List.prefix_append _ _)) (by omega), rfl, ?_⟩
    refine parts_next hvs hvl hvt (List.prefix_append _ _) ⟨ρ.length + 1, 1, true, by omega, by rw [hxt]; rfl, ?_⟩ (by rw [hxt]; simp) (by omega)
    rw [look_app_add, hxt]
    rfl
  rw [if_neg k1, if_neg k2] at hxt
  obtain ⟨l0, l1⟩ := n4 (by omega)
  obtain ⟨l, hlq⟩ := Int.eq_ofNat_of_zero_le l0
  obtain ⟨hl8, vl, hvl1, hvl2⟩ := hvt l (by omega)
  have hvl2t := hvl2.tb
  obtain ⟨ml, cl0, owl, hml, rfl, hll⟩ := hvl2
  rw [hlq, Int.toNat_natCast] at hxt
  have hlE : (l : Int) < (E.length : Int) := by omega
  simp only [go_sem, ↓reduceIte, Nat.reduceEqDiff, Nat.reduceAdd, Nat.reduceMul, Nat.reduceLT, Nat.reduceLeDiff, Int.reduceLT, Int.reduceLE, Int.reduceNeg, Int.reduceAdd, Int.reduceSub, Int.reduceMul, Int.reduceToNat, Int.reduceEq, Int.reduceNe, Int.cast_ofNat_Int, Int.natCast_one, Int.natCast_zero, Int.natCast_add, reduceCtorEq, t0, t3, t5, t6, t20, t21, t22, eq_false k1, eq_false k2]
  refine (f58_ok XM x.kind _).mono ?_
  rintro _ _ ⟨rfl, rfl⟩
  by_cases k34 : x.kind = 3 ∨ x.kind = 4
  · rcases k34 with h | h
    · simp only [go_sem, ↓reduceIte, Nat.reduceEqDiff, Nat.reduceAdd, Nat.reduceMul, Nat.reduceLT, Nat.reduceLeDiff, Int.reduceLT, Int.reduceLE, Int.reduceNeg, Int.reduceAdd, Int.reduceSub, Int.reduceMul, Int.reduceToNat, Int.reduceEq, Int.reduceNe, Int.cast_ofNat_Int, Int.natCast_one, Int.natCast_zero, Int.natCast_add, reduceCtorEq, t0, t3, t5, t6, t20, t21, t22, h]
      refine (f57_ok XM [45] _).mono ?_
      rintro _ ρ2 ⟨rfl, hp2⟩
      have hx2 := look_prefix hp2 (show look _ ρ.length = some _ by rw [look_app_new, look_zero])
      have hvs2 := look_prefix ((List.prefix_append _ _).trans hp2) hvs
      have hx2l := look_lt hx2
      have hpl2 := look_lt hvs2
      have hvl2' := hvl2t.mono ((List.prefix_append _ _).trans hp2)
      simp only [go_sem, ↓reduceIte, Nat.reduceEqDiff, Nat.reduceAdd, Nat.reduceMul, Nat.reduceLT, Nat.reduceLeDiff, Int.reduceLT, Int.reduceLE, Int.reduceNeg, Int.reduceAdd, Int.reduceSub, Int.reduceMul, Int.reduceToNat, Int.reduceEq, Int.reduceNe, Int.cast_ofNat_Int, Int.natCast_one, Int.natCast_zero, Int.natCast_add, reduceCtorEq, t0, t3, t5, t6, t20, t21, t22]
      refine And.intro (quiet_pre hp2) ?_
      simp only [go_sem, ↓reduceIte, Nat.reduceEqDiff, Nat.reduceAdd, Nat.reduceMul, Nat.reduceLT, Nat.reduceLeDiff, Int.reduceLT, Int.reduceLE, Int.reduceNeg, Int.reduceAdd, Int.reduceSub, Int.reduceMul, Int.reduceToNat, Int.reduceEq, Int.reduceNe, Int.cast_ofNat_Int, Int.natCast_one, Int.natCast_zero, Int.natCast_add, reduceCtorEq, t0, t3, t5, t6, t20, t21, t22, tkS, Tk.cells, look_app_lt hx2l, look_app_lt hpl2, hx2, hvs2, hlq, hlE, hvl1]
      (repeat (refine And.intro ?_ ?_; focus (first | (refine quiet_pre ?_; simp [List.cons_prefix_cons]; done) | (refine quiet_look ?_; kernel_rfl))))
      refine (f59_ok [[tkS [45]], toks E l] [.slice (some ⟨ρ2.length, 0, none⟩) 1 1, .slice (some ⟨ml, 0, none⟩) (toks E l).length cl0] (ρ2.length + 1) 2 2 true 1 _ ?hb rfl (by simp) rfl ?hT (by simp; omega)).mono ?_
      case hb => rw [look_app_add]; rfl
      case hT =>
        intro j L v hL hv
        rcases (show j = 0 ∨ j = 1 ∨ 2 ≤ j by omega) with rfl | rfl | hj
        · obtain rfl := Option.some.inj hL
          obtain rfl := Option.some.inj hv
          exact ⟨_, 1, true, rfl, by rw [look_app_new, look_zero]; rfl⟩
        · obtain rfl := Option.some.inj hL
          obtain rfl := Option.some.inj hv
          exact hvl2'.mono (List.prefix_append _ _)
        · rw [List.getElem?_eq_none (by simpa using hj)] at hL
          simp at hL
      rintro _ ρ5 ⟨hp5, q, c', hq, rfl, hlq⟩
      have hfl : [[tkS [45]], toks E l].flatten = toks E i := by rw [hxt]; simp [h]
      rw [hfl] at hlq ⊢
      simp only [go_sem, ↓reduceIte, Nat.reduceEqDiff, Nat.reduceAdd, Nat.reduceMul, Nat.reduceLT, Nat.reduceLeDiff, Int.reduceLT, Int.reduceLE, Int.reduceNeg, Int.reduceAdd, Int.reduceSub, Int.reduceMul, Int.reduceToNat, Int.reduceEq, Int.reduceNe, Int.cast_ofNat_Int, Int.natCast_one, Int.natCast_zero, Int.natCast_add, reduceCtorEq, t0, t3, t5, t6, t20, t21, t22]
      refine And.intro (quiet_pre hp5) ?_
      have hqp : p < q := by simp only [List.length_append, List.length_cons, List.length_nil] at hq; omega
      have hX : ρ <+: ρ5 := ((List.prefix_append _ _).trans hp2).trans ((List.prefix_append _ _).trans hp5)
      have hvs5 := look_prefix hX hvs
      have hpl5 := look_lt hvs5
      have h35 := look_prefix hX h31
      have h35l := look_lt h35
      simp only [go_sem, ↓reduceIte, Nat.reduceEqDiff, Nat.reduceAdd, Nat.reduceMul, Nat.reduceLT, Nat.reduceLeDiff, Int.reduceLT, Int.reduceLE, Int.reduceNeg, Int.reduceAdd, Int.reduceSub, Int.reduceMul, Int.reduceToNat, Int.reduceEq, Int.reduceNe, Int.cast_ofNat_Int, Int.natCast_one, Int.natCast_zero, Int.natCast_add, reduceCtorEq, t0, t3, t5, t6, t20, t21, t22, hi, hlE, hvs5, eq_true (show i + 1 ≤ vs.length by omega), look_set hpl5, List.length_set, List.getElem?_set_self (show i < vs.length by omega)]
      refine And.intro (quiet_look (by kernel_rfl)) ?_
      simp only [go_sem, ↓reduceIte, Nat.reduceEqDiff, Nat.reduceAdd, Nat.reduceMul, Nat.reduceLT, Nat.reduceLeDiff, Int.reduceLT, Int.reduceLE, Int.reduceNeg, Int.reduceAdd, Int.reduceSub, Int.reduceMul, Int.reduceToNat, Int.reduceEq, Int.reduceNe, Int.cast_ofNat_Int, Int.natCast_one, Int.natCast_zero, Int.natCast_add, reduceCtorEq, t0, t3, t5, t6, t20, t21, t22, hi, hlE, hvs5, look_set hpl5, List.length_set, List.getElem?_set_self (show i < vs.length by omega)]
      have hnew : TBn p ρ5 (toks E i) (.slice (some ⟨q, 0, none⟩) (toks E i).length c') := ⟨q, c', true, hqp, rfl, hlq⟩
      by_cases h8 : 8000 < (toks E i).length
      · simp only [go_sem, ↓reduceIte, Nat.reduceEqDiff, Nat.reduceAdd, Nat.reduceMul, Nat.reduceLT, Nat.reduceLeDiff, Int.reduceLT, Int.reduceLE, Int.reduceNeg, Int.reduceAdd, Int.reduceSub, Int.reduceMul, Int.reduceToNat, Int.reduceEq, Int.reduceNe, Int.cast_ofNat_Int, Int.natCast_one, Int.natCast_zero, Int.natCast_add, reduceCtorEq, t0, t3, eq_true (show (8000 : Int) < ((toks E i).length : Int) by omega), lss hpl5 h35l, look_set hpl5, h35, eq_false (show ¬ σ.length = p by omega)]
        exact ⟨.inr (.inl ⟨he, ⟨i, by omega, h8⟩, rfl⟩), prefix_set (prefix_set ((hpp.trans hp).trans hX) (by omega)) (Nat.le_refl _)⟩
      · simp only [go_sem, ↓reduceIte, Nat.reduceEqDiff, Nat.reduceAdd, Nat.reduceMul, Nat.reduceLT, Nat.reduceLeDiff, Int.reduceLT, Int.reduceLE, Int.reduceNeg, Int.reduceAdd, Int.reduceSub, Int.reduceMul, Int.reduceToNat, Int.reduceEq, Int.reduceNe, Int.cast_ofNat_Int, Int.natCast_one, Int.natCast_zero, Int.natCast_add, reduceCtorEq, t0, t3, t5, t6, t20, t21, t22, eq_false (show ¬ (8000 : Int) < ((toks E i).length : Int) by omega), hw]
        refine ⟨k - 1, by omega, i + 1, by omega, prefix_set (hp.trans hX) (by omega), rfl, ?_⟩
        exact parts_next hvs hvl hvt hX hnew (by omega) (by omega)
    · simp only [go_sem, ↓reduceIte, Nat.reduceEqDiff, Nat.reduceAdd, Nat.reduceMul, Nat.reduceLT, Nat.reduceLeDiff, Int.reduceLT, Int.reduceLE, Int.reduceNeg, Int.reduceAdd, Int.reduceSub, Int.reduceMul, Int.reduceToNat, Int.reduceEq, Int.reduceNe, Int.cast_ofNat_Int, Int.natCast_one, Int.natCast_zero, Int.natCast_add, reduceCtorEq, t0, t3, t5, t6, t20, t21, t22, h]
      refine (f57_ok XM [126] _).mono ?_
      rintro _ ρ2 ⟨rfl, hp2⟩
      have hx2 := look_prefix hp2 (show look _ ρ.length = some _ by rw [look_app_new, look_zero])
      have hvs2 := look_prefix ((List.prefix_append _ _).trans hp2) hvs
      have hx2l := look_lt hx2
      have hpl2 := look_lt hvs2
      have hvl2' := hvl2t.mono ((List.prefix_append _ _).trans hp2)
      simp only [go_sem, ↓reduceIte, Nat.reduceEqDiff, Nat.reduceAdd, Nat.reduceMul, Nat.reduceLT, Nat.reduceLeDiff, Int.reduceLT, Int.reduceLE, Int.reduceNeg, Int.reduceAdd, Int.reduceSub, Int.reduceMul, Int.reduceToNat, Int.reduceEq, Int.reduceNe, Int.cast_ofNat_Int, Int.natCast_one, Int.natCast_zero, Int.natCast_add, reduceCtorEq, t0, t3, t5, t6, t20, t21, t22]
      refine And.intro (quiet_pre hp2) ?_
      simp only [go_sem, ↓reduceIte, Nat.reduceEqDiff, Nat.reduceAdd, Nat.reduceMul, Nat.reduceLT, Nat.reduceLeDiff, Int.reduceLT, Int.reduceLE, Int.reduceNeg, Int.reduceAdd, Int.reduceSub, Int.reduceMul, Int.reduceToNat, Int.reduceEq, Int.reduceNe, Int.cast_ofNat_Int, Int.natCast_one, Int.natCast_zero, Int.natCast_add, reduceCtorEq, t0, t3, t5, t6, t20, t21, t22, tkS, Tk.cells, look_app_lt hx2l, look_app_lt hpl2, hx2, hvs2, hlq, hlE, hvl1]
      (repeat (refine And.intro ?_ ?_; focus (first | (refine quiet_pre ?_; simp [List.cons_prefix_cons]; done) | (refine quiet_look ?_; kernel_rfl))))
      refine (f59_ok [[tkS [126]], toks E l] [.slice (some ⟨ρ2.length, 0, none⟩) 1 1, .slice (some ⟨ml, 0, none⟩) (toks E l).length cl0] (ρ2.length + 1) 2 2 true 1 _ ?hb rfl (by simp) rfl ?hT (by simp; omega)).mono ?_
      case hb => rw [look_app_add]; rfl
      case hT =>
        intro j L v hL hv
        rcases (show j = 0 ∨ j = 1 ∨ 2 ≤ j by omega) with rfl | rfl | hj
        · obtain rfl := Option.some.inj hL
          obtain rfl := Option.some.inj hv
          exact ⟨_, 1, true, rfl, by rw [look_app_new, look_zero]; rfl⟩
        · obtain rfl := Option.some.inj hL
          obtain rfl := Option.some.inj hv
          exact hvl2'.mono (List.prefix_append _ _)
        · rw [List.getElem?_eq_none (by simpa using hj)] at hL
          simp at hL
      rintro _ ρ5 ⟨hp5, q, c', hq, rfl, hlq⟩
      have hfl : [[tkS [126]], toks E l].flatten = toks E i := by rw [hxt]; simp [h]
      rw [hfl] at hlq ⊢
      simp only [go_sem, ↓reduceIte, Nat.reduceEqDiff, Nat.reduceAdd, Nat.reduceMul, Nat.reduceLT, Nat.reduceLeDiff, Int.reduceLT, Int.reduceLE, Int.reduceNeg, Int.reduceAdd, Int.reduceSub, Int.reduceMul, Int.reduceToNat, Int.reduceEq, Int.reduceNe, Int.cast_ofNat_Int, Int.natCast_one, Int.natCast_zero, Int.natCast_add, reduceCtorEq, t0, t3, t5, t6, t20, t21, t22]
      refine And.intro (quiet_pre hp5) ?_
      have hqp : p < q := by simp only [List.length_append, List.length_cons, List.length_nil] at hq; omega
      have hX : ρ <+: ρ5 := ((List.prefix_append _ _).trans hp2).trans ((List.prefix_append _ _).trans hp5)
      have hvs5 := look_prefix hX hvs
      have hpl5 := look_lt hvs5
      have h35 := look_prefix hX h31
      have h35l := look_lt h35
      simp only [go_sem, ↓reduceIte, Nat.reduceEqDiff, Nat.reduceAdd, Nat.reduceMul, Nat.reduceLT, Nat.reduceLeDiff, Int.reduceLT, Int.reduceLE, Int.reduceNeg, Int.reduceAdd, Int.reduceSub, Int.reduceMul, Int.reduceToNat, Int.reduceEq, Int.reduceNe, Int.cast_ofNat_Int, Int.natCast_one, Int.natCast_zero, Int.natCast_add, reduceCtorEq, t0, t3, t5, t6, t20, t21, t22, hi, hlE, hvs5, eq_true (show i + 1 ≤ vs.length by omega), look_set hpl5, List.length_set, List.getElem?_set_self (show i < vs.length by omega)]
      refine And.intro (quiet_look (by kernel_rfl)) ?_
      simp only [go_sem, ↓reduceIte, Nat.reduceEqDiff, Nat.reduceAdd, Nat.reduceMul, Nat.reduceLT, Nat.reduceLeDiff, Int.reduceLT, Int.reduceLE, Int.reduceNeg, Int.reduceAdd, Int.reduceSub, Int.reduceMul, Int.reduceToNat, Int.reduceEq, Int.reduceNe, Int.cast_ofNat_Int, Int.natCast_one, Int.natCast_zero, Int.natCast_add, reduceCtorEq, t0, t3, t5, t6, t20, t21, t22, hi, hlE, hvs5, look_set hpl5, List.length_set, List.getElem?_set_self (show i < vs.length by omega)]
      have hnew : TBn p ρ5 (toks E i) (.slice (some ⟨q, 0, none⟩) (toks E i).length c') := ⟨q, c', true, hqp, rfl, hlq⟩
      by_cases h8 : 8000 < (toks E i).length
      · simp only [go_sem, ↓reduceIte, Nat.reduceEqDiff, Nat.reduceAdd, Nat.reduceMul, Nat.reduceLT, Nat.reduceLeDiff, Int.reduceLT, Int.reduceLE, Int.reduceNeg, Int.reduceAdd, Int.reduceSub, Int.reduceMul, Int.reduceToNat, Int.reduceEq, Int.reduceNe, Int.cast_ofNat_Int, Int.natCast_one, Int.natCast_zero, Int.natCast_add, reduceCtorEq, t0, t3, eq_true (show (8000 : Int) < ((toks E i).length : Int) by omega), lss hpl5 h35l, look_set hpl5, h35, eq_false (show ¬ σ.length = p by omega)]
        exact ⟨.inr (.inl ⟨he, ⟨i, by omega, h8⟩, rfl⟩), prefix_set (prefix_set ((hpp.trans hp).trans hX) (by omega)) (Nat.le_refl _)⟩
      · simp only [go_sem, ↓reduceIte, Nat.reduceEqDiff, Nat.reduceAdd, Nat.reduceMul, Nat.reduceLT, Nat.reduceLeDiff, Int.reduceLT, Int.reduceLE, Int.reduceNeg, Int.reduceAdd, Int.reduceSub, Int.reduceMul, Int.reduceToNat, Int.reduceEq, Int.reduceNe, Int.cast_ofNat_Int, Int.natCast_one, Int.natCast_zero, Int.natCast_add, reduceCtorEq, t0, t3, t5, t6, t20, t21, t22, eq_false (show ¬ (8000 : Int) < ((toks E i).length : Int) by omega), hw]
        refine ⟨k - 1, by omega, i + 1, by omega, prefix_set (hp.trans hX) (by omega), rfl, ?_⟩
        exact parts_next hvs hvl hvt hX hnew (by omega) (by omega)
  · rw [if_neg (by omega), if_neg (by omega)] at hxt
    obtain ⟨r0, r1⟩ := n5 (by omega)
    obtain ⟨r, hrq⟩ := Int.eq_ofNat_of_zero_le r0
    obtain ⟨hr8, vr, hvr1, hvr2⟩ := hvt r (by omega)
    have hvr2t := hvr2.tb
    obtain ⟨mr, cr0, owr, hmr, rfl, hrr⟩ := hvr2
    obtain ⟨m, hm⟩ : ∃ m : Nat, x.kind - 5 = m := ⟨(x.kind - 5).toNat, by omega⟩
    rw [hrq, hm, Int.toNat_natCast, Int.toNat_natCast] at hxt
    have hrE : (r : Int) < (E.length : Int) := by omega
    have hm10 : m < 10 := by omega
    have hop := op_at hm10
    have hwk : IntKind.i64.wrap (x.kind - 5) = (m : Int) := by rw [wrap64 (by omega)]; exact hm
    generalize ops.getD m [] = sg at *
    simp only [go_sem, ↓reduceIte, Nat.reduceEqDiff, Nat.reduceAdd, Nat.reduceMul, Nat.reduceLT, Nat.reduceLeDiff, Int.reduceLT, Int.reduceLE, Int.reduceNeg, Int.reduceAdd, Int.reduceSub, Int.reduceMul, Int.reduceToNat, Int.reduceEq, Int.reduceNe, Int.cast_ofNat_Int, Int.natCast_one, Int.natCast_zero, Int.natCast_add, reduceCtorEq, t0, t3, t5, t6, t20, t21, t22, eq_false k34, hwk, eq_true (show (m : Int) < 10 by omega), hop]
    refine (f57_ok XM [40] _).mono ?_
    rintro _ ρ2 ⟨rfl, hp2⟩
    have hx2 := look_prefix hp2 (show look _ ρ.length = some _ by rw [look_app_new, look_zero])
    have hp02 : ρ <+: ρ2 := (List.prefix_append _ _).trans hp2
    have hvs2 := look_prefix hp02 hvs
    have hx2l := look_lt hx2
    have hpl2 := look_lt hvs2
    simp only [go_sem, ↓reduceIte, Nat.reduceEqDiff, Nat.reduceAdd, Nat.reduceMul, Nat.reduceLT, Nat.reduceLeDiff, Int.reduceLT, Int.reduceLE, Int.reduceNeg, Int.reduceAdd, Int.reduceSub, Int.reduceMul, Int.reduceToNat, Int.reduceEq, Int.reduceNe, Int.cast_ofNat_Int, Int.natCast_one, Int.natCast_zero, Int.natCast_add, reduceCtorEq, t0, t3, t5, t6, t20, t21, t22]
    refine And.intro (quiet_pre hp2) ?_
    simp only [go_sem, ↓reduceIte, Nat.reduceEqDiff, Nat.reduceAdd, Nat.reduceMul, Nat.reduceLT, Nat.reduceLeDiff, Int.reduceLT, Int.reduceLE, Int.reduceNeg, Int.reduceAdd, Int.reduceSub, Int.reduceMul, Int.reduceToNat, Int.reduceEq, Int.reduceNe, Int.cast_ofNat_Int, Int.natCast_one, Int.natCast_zero, Int.natCast_add, reduceCtorEq, t0, t3, t5, t6, t20, t21, t22, tkS, Tk.cells, look_app_lt hx2l, look_app_lt hpl2, hx2, hvs2, hlq, hlE, hvl1]
    refine (f57_ok XM sg _).mono ?_
    rintro _ ρ3 ⟨rfl, hp3⟩
    have ha3 := look_prefix hp3 (show look _ ρ2.length = some _ by rw [look_app_new, look_zero])
    have hp03 : ρ <+: ρ3 := (hp02.trans (List.prefix_append _ _)).trans hp3
    have hvs3 := look_prefix hp03 hvs
    have hx3 := look_prefix ((List.prefix_append _ _).trans hp3) hx2
    have hx3l := look_lt hx3
    have hpl3 := look_lt hvs3
    simp only [go_sem, ↓reduceIte, Nat.reduceEqDiff, Nat.reduceAdd, Nat.reduceMul, Nat.reduceLT, Nat.reduceLeDiff, Int.reduceLT, Int.reduceLE, Int.reduceNeg, Int.reduceAdd, Int.reduceSub, Int.reduceMul, Int.reduceToNat, Int.reduceEq, Int.reduceNe, Int.cast_ofNat_Int, Int.natCast_one, Int.natCast_zero, Int.natCast_add, reduceCtorEq, t0, t3, t5, t6, t20, t21, t22]
    refine And.intro (quiet_pre hp3) ?_
    simp only [go_sem, ↓reduceIte, Nat.reduceEqDiff, Nat.reduceAdd, Nat.reduceMul, Nat.reduceLT, Nat.reduceLeDiff, Int.reduceLT, Int.reduceLE, Int.reduceNeg, Int.reduceAdd, Int.reduceSub, Int.reduceMul, Int.reduceToNat, Int.reduceEq, Int.reduceNe, Int.cast_ofNat_Int, Int.natCast_one, Int.natCast_zero, Int.natCast_add, reduceCtorEq, t0, t3, t5, t6, t20, t21, t22, tkS, Tk.cells, look_app_lt hx3l, look_app_lt hpl3, hx3, hvs3, hrq, hrE, hvr1]
    refine (f57_ok XM [41] _).mono ?_
    rintro _ ρ4 ⟨rfl, hp4⟩
    have ha4 := look_prefix ((List.prefix_append _ _).trans hp4) ha3
    have hb4 := look_prefix hp4 (show look _ ρ3.length = some _ by rw [look_app_new, look_zero])
    have hp04 : ρ <+: ρ4 := (hp03.trans (List.prefix_append _ _)).trans hp4
    have hle4 := hp04.length_le
    simp only [go_sem, ↓reduceIte, Nat.reduceEqDiff, Nat.reduceAdd, Nat.reduceMul, Nat.reduceLT, Nat.reduceLeDiff, Int.reduceLT, Int.reduceLE, Int.reduceNeg, Int.reduceAdd, Int.reduceSub, Int.reduceMul, Int.reduceToNat, Int.reduceEq, Int.reduceNe, Int.cast_ofNat_Int, Int.natCast_one, Int.natCast_zero, Int.natCast_add, reduceCtorEq, t0, t3, t5, t6, t20, t21, t22]
    refine And.intro (quiet_pre hp4) ?_
    simp only [go_sem, ↓reduceIte, Nat.reduceEqDiff, Nat.reduceAdd, Nat.reduceMul, Nat.reduceLT, Nat.reduceLeDiff, Int.reduceLT, Int.reduceLE, Int.reduceNeg, Int.reduceAdd, Int.reduceSub, Int.reduceMul, Int.reduceToNat, Int.reduceEq, Int.reduceNe, Int.cast_ofNat_Int, Int.natCast_one, Int.natCast_zero, Int.natCast_add, reduceCtorEq, t0, t3, t5, t6, t20, t21, t22, tkS, Tk.cells]
    (repeat (refine And.intro ?_ ?_; focus (first | (refine quiet_pre ?_; simp [List.cons_prefix_cons]; done) | (refine quiet_look ?_; kernel_rfl))))
    refine (f59_ok [[tkS [40]], toks E l, [tkS sg], toks E r, [tkS [41]]] [.slice (some ⟨ρ2.length, 0, none⟩) 1 1, .slice (some ⟨ml, 0, none⟩) (toks E l).length cl0, .slice (some ⟨ρ3.length, 0, none⟩) 1 1, .slice (some ⟨mr, 0, none⟩) (toks E r).length cr0, .slice (some ⟨ρ4.length, 0, none⟩) 1 1] (ρ4.length + 1) 5 5 true 1 _ ?hb rfl (by simp) rfl ?hT (by simp; omega)).mono ?_
    case hb => rw [look_app_add]; rfl
    case hT =>
      intro j L v hL hv
      rcases (show j = 0 ∨ j = 1 ∨ j = 2 ∨ j = 3 ∨ j = 4 ∨ 5 ≤ j by omega) with rfl | rfl | rfl | rfl | rfl | hj
      · obtain rfl := Option.some.inj hL
        obtain rfl := Option.some.inj hv
        exact ⟨_, 1, true, rfl, look_prefix (List.prefix_append _ _) ha4⟩
      · obtain rfl := Option.some.inj hL
        obtain rfl := Option.some.inj hv
        exact (hvl2t.mono hp04).mono (List.prefix_append _ _)
      · obtain rfl := Option.some.inj hL
        obtain rfl := Option.some.inj hv
        exact ⟨_, 1, true, rfl, look_prefix (List.prefix_append _ _) hb4⟩
      · obtain rfl := Option.some.inj hL
        obtain rfl := Option.some.inj hv
        exact (hvr2t.mono hp04).mono (List.prefix_append _ _)
      · obtain rfl := Option.some.inj hL
        obtain rfl := Option.some.inj hv
        exact ⟨_, 1, true, rfl, by rw [look_app_new, look_zero]; rfl⟩
      · rw [List.getElem?_eq_none (by simpa using hj)] at hL
        simp at hL
    rintro _ ρ5 ⟨hp5, q, c', hq, rfl, hlq⟩
    have hfl : [[tkS [40]], toks E l, [tkS sg], toks E r, [tkS [41]]].flatten = toks E i := by rw [hxt]; simp
    rw [hfl] at hlq ⊢
    simp only [go_sem, ↓reduceIte, Nat.reduceEqDiff, Nat.reduceAdd, Nat.reduceMul, Nat.reduceLT, Nat.reduceLeDiff, Int.reduceLT, Int.reduceLE, Int.reduceNeg, Int.reduceAdd, Int.reduceSub, Int.reduceMul, Int.reduceToNat, Int.reduceEq, Int.reduceNe, Int.cast_ofNat_Int, Int.natCast_one, Int.natCast_zero, Int.natCast_add, reduceCtorEq, t0, t3, t5, t6, t20, t21, t22]
    refine And.intro (quiet_pre hp5) ?_
    have hqp : p < q := by simp only [List.length_append, List.length_cons, List.length_nil] at hq; omega
    have hX : ρ <+: ρ5 := (hp04.trans ((List.prefix_append _ _).trans hp5))
    have hvs5 := look_prefix hX hvs
    have hpl5 := look_lt hvs5
    have h35 := look_prefix hX h31
    have h35l := look_lt h35
    simp only [go_sem, ↓reduceIte, Nat.reduceEqDiff, Nat.reduceAdd, Nat.reduceMul, Nat.reduceLT, Nat.reduceLeDiff, Int.reduceLT, Int.reduceLE, Int.reduceNeg, Int.reduceAdd, Int.reduceSub, Int.reduceMul, Int.reduceToNat, Int.reduceEq, Int.reduceNe, Int.cast_ofNat_Int, Int.natCast_one, Int.natCast_zero, Int.natCast_add, reduceCtorEq, t0, t3, t5, t6, t20, t21, t22, hi, hlE, hvs5, eq_true (show i + 1 ≤ vs.length by omega), look_set hpl5, List.length_set, List.getElem?_set_self (show i < vs.length by omega)]
    refine And.intro (quiet_look (by kernel_rfl)) ?_
    simp only [go_sem, ↓reduceIte, Nat.reduceEqDiff, Nat.reduceAdd, Nat.reduceMul, Nat.reduceLT, Nat.reduceLeDiff, Int.reduceLT, Int.reduceLE, Int.reduceNeg, Int.reduceAdd, Int.reduceSub, Int.reduceMul, Int.reduceToNat, Int.reduceEq, Int.reduceNe, Int.cast_ofNat_Int, Int.natCast_one, Int.natCast_zero, Int.natCast_add, reduceCtorEq, t0, t3, t5, t6, t20, t21, t22, hi, hlE, hvs5, look_set hpl5, List.length_set, List.getElem?_set_self (show i < vs.length by omega)]
    have hnew : TBn p ρ5 (toks E i) (.slice (some ⟨q, 0, none⟩) (toks E i).length c') := ⟨q, c', true, hqp, rfl, hlq⟩
    by_cases h8 : 8000 < (toks E i).length
    · simp only [go_sem, ↓reduceIte, Nat.reduceEqDiff, Nat.reduceAdd, Nat.reduceMul, Nat.reduceLT, Nat.reduceLeDiff, Int.reduceLT, Int.reduceLE, Int.reduceNeg, Int.reduceAdd, Int.reduceSub, Int.reduceMul, Int.reduceToNat, Int.reduceEq, Int.reduceNe, Int.cast_ofNat_Int, Int.natCast_one, Int.natCast_zero, Int.natCast_add, reduceCtorEq, t0, t3, eq_true (show (8000 : Int) < ((toks E i).length : Int) by omega), lss hpl5 h35l, look_set hpl5, h35, eq_false (show ¬ σ.length = p by omega)]
      exact ⟨.inr (.inl ⟨he, ⟨i, by omega, h8⟩, rfl⟩), prefix_set (prefix_set ((hpp.trans hp).trans hX) (by omega)) (Nat.le_refl _)⟩
    · simp only [go_sem, ↓reduceIte, Nat.reduceEqDiff, Nat.reduceAdd, Nat.reduceMul, Nat.reduceLT, Nat.reduceLeDiff, Int.reduceLT, Int.reduceLE, Int.reduceNeg, Int.reduceAdd, Int.reduceSub, Int.reduceMul, Int.reduceToNat, Int.reduceEq, Int.reduceNe, Int.cast_ofNat_Int, Int.natCast_one, Int.natCast_zero, Int.natCast_add, reduceCtorEq, t0, t3, t5, t6, t20, t21, t22, eq_false (show ¬ (8000 : Int) < ((toks E i).length : Int) by omega), hw]
      refine ⟨k - 1, by omega, i + 1, by omega, prefix_set (hp.trans hX) (by omega), rfl, ?_⟩
      exact parts_next hvs hvl hvt hX hnew (by omega) (by omega)
end Go.Proofs.YtkgdkommahgakaaDoor.Abs

/- A call at nil is a call at an empty block of which nothing is known: contracts of whole blocks serve for nil. -/
namespace Go.Proofs.YtkgdkommahgakaaDoor.Abs
open Go Go.RowKit
set_option linter.unusedVariables false
set_option linter.unusedSimpArgs false

/-- Some nils are told as a slice of no elements at n. -/
inductive Ghost (n : Nat) : List Value → List Value → Prop
  | nil : Ghost n [] []
  | same (a : Value) (xs ys : List Value) (h : Ghost n xs ys) : Ghost n (a :: xs) (a :: ys)
  | none (c : Nat) (xs ys : List Value) (h : Ghost n xs ys) : Ghost n (.slice none 0 0 :: xs) (.slice (some ⟨n, 0, none⟩) 0 (c + 1) :: ys)
theorem Ghost.rel {n : Nat} {β : Map} : ∀ {xs zs cs : List Value}, Ghost n xs zs → RelL β xs cs → RelL β zs cs
  | _, _, _, .nil, h => h
  | _, _, _, .same a xs zs h, .cons _ y _ ys h1 h2 => .cons a y _ _ h1 (h.rel h2)
  | _, _, _, .none c xs zs h, .cons _ y _ ys h1 h2 => by
    refine .cons _ y _ _ ?_ (h.rel h2)
    rcases h1.slc_inv with ⟨_, _, _, rfl⟩ | ⟨_, h0, _⟩ | ⟨_, _, _, _, h0, _⟩
    · exact .slc0 _ _ _
    · simp at h0
    · simp at h0
def XN (P : Program) (X : Ext) : Ext := fun f args σ v σ' => ∃ args' sz, Ghost σ.length args args' ∧ Run P X (.call f args') (σ ++ [some ⟨[], true, sz⟩]) (.val v) σ'
theorem XN_sound {P : Program} (hm : P.follows .mixedOrders = true) {X : Ext} (hX : ∀ f args σ v σ', X f args σ v σ' → ∀ base, CallSound P base f args σ v σ' ∧ σ.length ≤ σ'.length) :
    ∀ f args σ v σ', XN P X f args σ v σ' → ∀ base, CallSound P base f args σ v σ' ∧ σ.length ≤ σ'.length := by
  rintro f args σ v σ' ⟨args', sz, hg, h⟩ base
  have hlen := run_len (fun f args σ v σ' h => (hX f args σ v σ' h base).2) h
  have hs := run_sound (base := base) hm (fun f args σ v σ' h => hX f args σ v σ' h base) h
  simp only [List.length_append, List.length_cons, List.length_nil] at hlen
  refine ⟨fun β w cargs hrel hsim hf => ?_, by omega⟩
  have hfl : β σ.length = none := hf _ (Nat.le_refl _) (by omega)
  obtain ⟨s1, s2⟩ := sim_empty hsim hfl sz
  refine (hs β w cargs (hg.rel hrel) s1 fun n h1 h2 => hf n (by simp at h1; omega) h2).mono fun e w' hh => ?_
  obtain ⟨β', v', rfl, h2, h3, h4⟩ := hh
  exact ⟨β', v', rfl, h2, h3, s2.trans h4⟩
theorem CW.ghost {P : Program} {X : Ext} {f : FuncId} {args args' : List Value} {σ : Heap} {K : Value → Heap → Prop} (sz : Nat) (hg : Ghost σ.length args args') (h : CW P X f args' (σ ++ [some ⟨[], true, sz⟩]) K) : CW P (XN P X) f args σ K := by
  obtain ⟨h1, v, σ', h2, h3⟩ := h
  exact ⟨h1, v, σ', .ext ⟨args', sz, hg, h2⟩, h3⟩
/-- The outside that is used from here on. -/
def XQ : Ext := fun f args σ v σ' => XM f args σ v σ' ∨ XN Tryd.prog XM f args σ v σ'
theorem XQ_sound : ∀ f args σ v σ', XQ f args σ v σ' → ∀ base, CallSound Tryd.prog base f args σ v σ' ∧ σ.length ≤ σ'.length := by
  rintro f args σ v σ' (h | h) base
  · exact XM_sound f args σ v σ' h base
  · exact XN_sound (by kernel_rfl) XM_sound f args σ v σ' h base
theorem xm_xq : ∀ f args σ v σ', XM f args σ v σ' → XQ f args σ v σ' := fun _ _ _ _ _ h => .inl h
theorem xl_xq : ∀ f args σ v σ', XL f args σ v σ' → XQ f args σ v σ' := fun _ _ _ _ _ h => .inl (.inl h)
theorem xn_xq : ∀ f args σ v σ', XN Tryd.prog XM f args σ v σ' → XQ f args σ v σ' := fun _ _ _ _ _ h => .inr h
end Go.Proofs.YtkgdkommahgakaaDoor.Abs

/- The law function ExprRoundTrip (f8). -/
namespace Go.Proofs.YtkgdkommahgakaaDoor.Abs
open Go Go.RowKit Gram
set_option linter.unusedVariables false
set_option linter.unusedSimpArgs false
set_option maxRecDepth 100000

/-- Tokens: none, or a whole block of them. -/
def TV (σ : Heap) (L : List Tk) (v : Value) : Prop := (L = [] ∧ v = .slice none 0 0) ∨ TB σ L v
theorem TV.mono {σ σ' : Heap} {L : List Tk} {v : Value} (h : TV σ L v) (hp : σ <+: σ') : TV σ' L v := by
  rcases h with h | h
  · exact .inl h
  · exact .inr (h.mono hp)
theorem TV.len {σ : Heap} {L : List Tk} {v : Value} (h : TV σ L v) : alen Tryd.prog #[22] [v] = some (.int .i64 L.length) := by
  rcases h with ⟨rfl, rfl⟩ | h
  · exact ln22
  · exact h.len
theorem parse_nil : parseOf [] = none := by
  have : (parseOf []).isNone = true := by decide +kernel
  simpa using this
theorem ParseV.nil_b {b b' : Nat} {v : Value} {ρ : Heap} (h : ParseV [] b v ρ) : ParseV [] b' v ρ := by
  unfold ParseV at *
  rw [parse_nil] at *
  exact h
theorem ghost_pre {σ ρ : Heap} {o : Option Blk} (h : σ ++ [o] <+: ρ) : σ <+: ρ := (List.prefix_append _ _).trans h
/-- Parse, of tokens that may be none. -/
theorem f18_tv (L : List Tk) (v : Value) (σ : Heap) (hl : TV σ L v) (hG : GL σ) (hz : L.length * 40 ≤ 140737488400000) (ht : ∀ x ∈ L, x.text.length ≤ 140737488351232) :
    CW Tryd.prog XQ 18 [v] σ fun v' σ' => ParseV L σ.length v' σ' ∧ σ <+: σ' := by
  rcases hl with ⟨rfl, rfl⟩ | ⟨m, c, ow, rfl, hl⟩
  · refine (CW.wider xn_xq (CW.ghost 4 (.none 0 _ _ .nil) (CW.wider xl_xm (f18_ok [] σ.length 1 true 4 (σ ++ [some ⟨[], true, 4⟩]) (by rw [look_app_new, look_zero]; rfl) (hG.mono (List.prefix_append _ _)) (by simp) (by simp))))).mono ?_
    rintro v' σ' ⟨h1, h2⟩
    exact ⟨h1.nil_b, ghost_pre h2⟩
  · exact CW.wider xl_xq (f18_ok L m c ow 4 σ hl hG hz ht)
theorem toks_text {E : List Nd} {k : Nat} (hk : 2 ≤ k) (ht : ∀ x ∈ E, x.name.length ≤ k) : ∀ (F i : Nat), ∀ y ∈ toksF E F i, y.text.length ≤ k := by
  have hop : ∀ m : Nat, (ops.getD m []).length ≤ 2 := fun m => by
    rw [List.getD_eq_getElem?_getD]
    cases h : ops[m]? with
    | none => simp
    | some s =>
      have : ∀ s ∈ ops, s.length ≤ 2 := by decide
      exact this s (List.mem_of_getElem? h)
  intro F
  induction F with
  | zero => intro i y hy; simp [toksF] at hy
  | succ F ih =>
    intro i y hy
    unfold toksF at hy
    cases hx : E[i]? with
    | none => rw [hx] at hy; simp at hy
    | some x =>
      rw [hx] at hy
      simp only at hy
      have hn := ht x (List.mem_of_getElem? hx)
      split at hy
      · rw [List.mem_singleton.1 hy]; simp
      · split at hy
        · rw [List.mem_singleton.1 hy]; exact hn
        · split at hy
          · rcases List.mem_cons.1 hy with rfl | hy
            · simp [tkS]; omega
            · exact ih _ y hy
          · split at hy
            · rcases List.mem_cons.1 hy with rfl | hy
              · simp [tkS]; omega
              · exact ih _ y hy
            · rcases List.mem_cons.1 hy with rfl | hy
              · simp [tkS]; omega
              · rcases List.mem_append.1 hy with hy | hy
                · rcases List.mem_append.1 hy with hy | hy
                  · exact ih _ y hy
                  · rcases List.mem_cons.1 hy with rfl | hy
                    · simp only [tkS]; exact Nat.le_trans (hop _) hk
                    · exact ih _ y hy
                · rw [List.mem_singleton.1 hy]; simp [tkS]; omega
theorem tokensV_split {E : List Nd} {v : Value} {ρ : Heap} (h : TokensV E v ρ) : ∃ (L : List Tk) (tv : Value) (cd ix : Int), v = .tuple #[tv, faultV (cd, ix)] ∧ TV ρ L tv ∧ L.length ≤ 8000 ∧ (L = [] ∨ L = toks E (E.length - 1)) ∧ (cd = 0 → (exprFault E).1 = 0 ∧ L = toks E (E.length - 1)) ∧ (cd ≠ 0 → L = []) := by
  rcases h with ⟨h1, h2⟩ | ⟨h1, h2, h3⟩ | ⟨h1, h2, tv, h3, h4⟩
  · exact ⟨[], _, _, _, h2, .inl ⟨rfl, rfl⟩, by simp, .inl rfl, fun h => absurd h h1, fun _ => rfl⟩
  · exact ⟨[], _, _, _, h3, .inl ⟨rfl, rfl⟩, by simp, .inl rfl, fun h => by omega, fun _ => rfl⟩
  · obtain ⟨_, k1, k2, _⟩ := exprFault_zero h1
    exact ⟨toks E (E.length - 1), tv, _, _, h3, .inr h4, h2 _ (by omega), .inr rfl, fun _ => ⟨h1, rfl⟩, fun h => absurd rfl h⟩
set_option maxHeartbeats 2000000 in
theorem f8_ok (E : List Nd) (S : List Sy) (n c m d sz sz2 : Nat) (σ : Heap) (hl : look σ n = some ⟨E.flatMap Nd.cells, false, sz⟩) (hm : look σ m = some ⟨S.flatMap Sy.cells, false, sz2⟩) (hG : GL σ) (ht : ∀ x ∈ E, x.name.length ≤ 140737488351232) (hz : E.length ≤ 140737488351232)
    (hts : ∀ x ∈ S, x.few) (hzs : S.length ≤ 140737488351232) : CW Tryd.prog XQ 8 [.slice (some ⟨n, 0, none⟩) E.length c, .slice (some ⟨m, 0, none⟩) S.length d] σ fun v σ' => v = .bool true ∧ σ <+: σ' := by
  refine cw_in Tryd.func8 rfl Tryd.ntmps8 (rs := [.tmp 4]) rfl (by kernel_rfl) (by exact Nat.le_of_ble_eq_true rfl) ?_
  have hSB : SB σ S (.slice (some ⟨m, 0, none⟩) S.length d) := .inr ⟨m, d, false, sz2, rfl, hm⟩
  simp only [go_sem, ↓reduceIte, Nat.reduceEqDiff, Nat.reduceAdd, Nat.reduceMul, Nat.reduceLT, Nat.reduceLeDiff, Int.reduceLT, Int.reduceLE, Int.reduceNeg, Int.reduceAdd, Int.reduceSub, Int.reduceMul, Int.reduceToNat, Int.reduceEq, Int.reduceNe, Int.cast_ofNat_Int, Int.natCast_one, Int.natCast_zero, Int.natCast_add, reduceCtorEq]
  refine (CW.wider xl_xq (f17_ok σ hG)).mono ?_
  rintro _ ρ0 ⟨rfl, hp0⟩
  simp only [go_sem, ↓reduceIte, Nat.reduceEqDiff, Nat.reduceAdd, Nat.reduceMul, Nat.reduceLT, Nat.reduceLeDiff, Int.reduceLT, Int.reduceLE, Int.reduceNeg, Int.reduceAdd, Int.reduceSub, Int.reduceMul, Int.reduceToNat, Int.reduceEq, Int.reduceNe, Int.cast_ofNat_Int, Int.natCast_one, Int.natCast_zero, Int.natCast_add, reduceCtorEq]
  refine (CW.wider xm_xq (f30_ok E n c false sz ρ0 (look_prefix hp0 hl) ht hz)).mono ?_
  rintro v ρ1 ⟨hT, hp1⟩
  obtain ⟨L, tv, cd, ix, rfl, hTV, hL8, hLE, hc0, hcn⟩ := tokensV_split hT
  have hP1 := hp0.trans hp1
  simp only [go_sem, ↓reduceIte, Nat.reduceEqDiff, Nat.reduceAdd, Nat.reduceMul, Nat.reduceLT, Nat.reduceLeDiff, Int.reduceLT, Int.reduceLE, Int.reduceNeg, Int.reduceAdd, Int.reduceSub, Int.reduceMul, Int.reduceToNat, Int.reduceEq, Int.reduceNe, Int.cast_ofNat_Int, Int.natCast_one, Int.natCast_zero, Int.natCast_add, reduceCtorEq, faultV]
  refine (f24_nb XQ E S (.slice (some ⟨n, 0, none⟩) E.length c) (.slice (some ⟨m, 0, none⟩) S.length d) _ (.inr ⟨n, c, false, sz, rfl, look_prefix (hP1.trans (List.prefix_append _ _)) hl⟩) (hSB.mono (hP1.trans (List.prefix_append _ _))) ht hts hz hzs).mono ?_
  rintro _ ρ2 ⟨rfl, hp2⟩
  have hTV2 := hTV.mono ((List.prefix_append _ _).trans hp2)
  have h6 := look_prefix hp2 (show look _ ρ1.length = some _ by rw [look_app_new, look_zero])
  have hP2 := (hP1.trans (List.prefix_append _ _)).trans hp2
  simp only [go_sem, ↓reduceIte, Nat.reduceEqDiff, Nat.reduceAdd, Nat.reduceMul, Nat.reduceLT, Nat.reduceLeDiff, Int.reduceLT, Int.reduceLE, Int.reduceNeg, Int.reduceAdd, Int.reduceSub, Int.reduceMul, Int.reduceToNat, Int.reduceEq, Int.reduceNe, Int.cast_ofNat_Int, Int.natCast_one, Int.natCast_zero, Int.natCast_add, reduceCtorEq, faultV, Lin.cells]
  have htx : ∀ x ∈ L, x.text.length ≤ 140737488351232 := fun x hx => by
    rcases hLE with rfl | rfl
    · simp at hx
    · exact toks_text (by omega) ht _ _ x hx
  refine (f18_tv L tv _ (hTV2.mono (List.prefix_append _ _)) (hG.mono (hP2.trans (List.prefix_append _ _))) (by omega) htx).mono ?_
  rintro v ρ3 ⟨hPa, hp3⟩
  obtain ⟨B, b, cd2, ix2, rfl, hB, hbadB, hgoodB, hnoneB⟩ := parseV_split hPa
  have h63 := look_prefix ((List.prefix_append _ _).trans hp3) h6
  have h7 := look_prefix hp3 (show look _ ρ2.length = some _ by rw [look_app_new, look_zero])
  have h8 := look_prefix hp3 (show look _ (ρ2.length + 1) = some _ by rw [look_app_add]; rfl)
  have hP3 := (hP2.trans (List.prefix_append _ _)).trans hp3
  clear hp3 hp2 hp1 hp0
  have bad := @valueOf_bad E S
  generalize ρ2.length = p7 at *
  generalize ρ1.length = p6 at *
  have l6 := look_lt h63
  have l7 := look_lt h7
  have l8 := look_lt h8
  simp only [go_sem, ↓reduceIte, Nat.reduceEqDiff, Nat.reduceAdd, Nat.reduceMul, Nat.reduceLT, Nat.reduceLeDiff, Int.reduceLT, Int.reduceLE, Int.reduceNeg, Int.reduceAdd, Int.reduceSub, Int.reduceMul, Int.reduceToNat, Int.reduceEq, Int.reduceNe, Int.cast_ofNat_Int, Int.natCast_one, Int.natCast_zero, Int.natCast_add, reduceCtorEq, faultV]
  by_cases c2 : (valueOf E S).2.1 = 0
  case neg =>
    have hz0 := bad c2
    rw [hz0] at h7
    by_cases c1 : cd = 0
    · simp only [go_sem, ↓reduceIte, Nat.reduceEqDiff, Nat.reduceAdd, Nat.reduceMul, Nat.reduceLT, Nat.reduceLeDiff, Int.reduceLT, Int.reduceLE, Int.reduceNeg, Int.reduceAdd, Int.reduceSub, Int.reduceMul, Int.reduceToNat, Int.reduceEq, Int.reduceNe, Int.cast_ofNat_Int, Int.natCast_one, Int.natCast_zero, Int.natCast_add, reduceCtorEq, Lin.zero, look_app_lt l6, look_app_lt l7, look_app_lt l8, h63, h7, h8, eq_true c1, eq_false c2]
      exact hP3.trans (List.prefix_append _ _)
    · simp only [go_sem, ↓reduceIte, Nat.reduceEqDiff, Nat.reduceAdd, Nat.reduceMul, Nat.reduceLT, Nat.reduceLeDiff, Int.reduceLT, Int.reduceLE, Int.reduceNeg, Int.reduceAdd, Int.reduceSub, Int.reduceMul, Int.reduceToNat, Int.reduceEq, Int.reduceNe, Int.cast_ofNat_Int, Int.natCast_one, Int.natCast_zero, Int.natCast_add, reduceCtorEq, Lin.zero, look_app_lt l6, look_app_lt l7, look_app_lt l8, h63, h7, h8, eq_false c1, eq_false c2]
      exact hP3.trans (List.prefix_append _ _)
  by_cases c1 : cd = 0
  case neg =>
    simp only [go_sem, ↓reduceIte, Nat.reduceEqDiff, Nat.reduceAdd, Nat.reduceMul, Nat.reduceLT, Nat.reduceLeDiff, Int.reduceLT, Int.reduceLE, Int.reduceNeg, Int.reduceAdd, Int.reduceSub, Int.reduceMul, Int.reduceToNat, Int.reduceEq, Int.reduceNe, Int.cast_ofNat_Int, Int.natCast_one, Int.natCast_zero, Int.natCast_add, reduceCtorEq, look_app_lt l6, look_app_lt l7, look_app_lt l8, h63, h7, h8, eq_false c1, eq_true c2]
    exact hP3.trans (List.prefix_append _ _)
  by_cases c3 : cd2 = 0
  case neg =>
    simp only [go_sem, ↓reduceIte, Nat.reduceEqDiff, Nat.reduceAdd, Nat.reduceMul, Nat.reduceLT, Nat.reduceLeDiff, Int.reduceLT, Int.reduceLE, Int.reduceNeg, Int.reduceAdd, Int.reduceSub, Int.reduceMul, Int.reduceToNat, Int.reduceEq, Int.reduceNe, Int.cast_ofNat_Int, Int.natCast_one, Int.natCast_zero, Int.natCast_add, reduceCtorEq, look_app_lt l6, look_app_lt l7, look_app_lt l8, h63, h7, h8, eq_true c1, eq_true c2, eq_false c3]
    exact hP3.trans (List.prefix_append _ _)
  obtain ⟨hE0, rfl⟩ := hc0 c1
  obtain ⟨t, hpt, rfl⟩ : ∃ t, parseOf (toks E (E.length - 1)) = some t ∧ B = post t [] := by
    cases hb : badTok (toks E (E.length - 1)) with
    | some j => have := (hbadB j hb).2.1; omega
    | none =>
      cases hpp : parseOf (toks E (E.length - 1)) with
      | none => exact absurd c3 (hnoneB hb hpp).2.1
      | some t => exact ⟨t, rfl, (hgoodB hb t hpp).1⟩
  obtain ⟨_, k1, k2, k3⟩ := exprFault_zero hE0
  have hv := trip_law c2 (by rw [toksF_fuel k3 E.length (E.length - 1 + 1) (E.length - 1) (by omega) (by omega) (by omega)]; exact hpt)
  have nB := parse_names hpt htx
  have lB : (post t []).length ≤ 140737488351232 := by
    have := post_len t []
    have h60 := ((parse_nodes _ t).1 hpt).2
    simp at this
    omega
  simp only [go_sem, ↓reduceIte, Nat.reduceEqDiff, Nat.reduceAdd, Nat.reduceMul, Nat.reduceLT, Nat.reduceLeDiff, Int.reduceLT, Int.reduceLE, Int.reduceNeg, Int.reduceAdd, Int.reduceSub, Int.reduceMul, Int.reduceToNat, Int.reduceEq, Int.reduceNe, Int.cast_ofNat_Int, Int.natCast_one, Int.natCast_zero, Int.natCast_add, reduceCtorEq, look_app_lt l6, look_app_lt l7, look_app_lt l8, h63, h7, h8, eq_true c1, eq_true c2, eq_true c3]
  refine (f24_nb XQ (post t []) S b (.slice (some ⟨m, 0, none⟩) S.length d) _ (hB.mono (List.prefix_append _ _)) (hSB.mono (hP3.trans (List.prefix_append _ _))) nB hts lB hzs).mono ?_
  rintro _ ρ4 ⟨rfl, hp4⟩
  rw [hv]
  have h74 := look_prefix ((List.prefix_append _ _).trans hp4) h7
  have l74 := look_lt h74
  simp only [go_sem, ↓reduceIte, Nat.reduceEqDiff, Nat.reduceAdd, Nat.reduceMul, Nat.reduceLT, Nat.reduceLeDiff, Int.reduceLT, Int.reduceLE, Int.reduceNeg, Int.reduceAdd, Int.reduceSub, Int.reduceMul, Int.reduceToNat, Int.reduceEq, Int.reduceNe, Int.cast_ofNat_Int, Int.natCast_one, Int.natCast_zero, Int.natCast_add, reduceCtorEq, faultV, Lin.cells, look_app_lt l74, h74, eq_true c2]
  exact ((hP3.trans (List.prefix_append _ _)).trans hp4).trans (List.prefix_append _ _)
end Go.Proofs.YtkgdkommahgakaaDoor.Abs
