import Derived.Test.YtkgdkommahgakaaDoorPse
namespace Go.Proofs.YtkgdkommahgakaaDoor.Abs
open Go Go.RowKit Gram
set_option linter.unusedVariables false
set_option linter.unusedSimpArgs false
set_option maxRecDepth 100000

/-! ### a window on tokens -/
def Win (σ : Heap) (n o : Nat) (L : List Tk) : Prop := ∃ cells ow sz, look σ n = some ⟨cells, ow, sz⟩ ∧ (ow = false ∨ sz = 4) ∧ ∀ j x, L[j]? = some x → (cells.drop (o + j * 4)).take 4 = x.cells ∧ o + j * 4 + 4 ≤ cells.length
theorem Win.mono {σ σ' : Heap} {n o : Nat} {L : List Tk} (h : Win σ n o L) (hp : σ <+: σ') : Win σ' n o L := by
  obtain ⟨cells, ow, sz, h1, h2⟩ := h
  exact ⟨cells, ow, sz, look_prefix hp h1, h2⟩
theorem Win.sub {σ : Heap} {n o : Nat} {L : List Tk} (h : Win σ n o L) (a m : Nat) : Win σ n (o + a * 4) ((L.drop a).take m) := by
  obtain ⟨cells, ow, sz, h1, h2, h3⟩ := h
  refine ⟨cells, ow, sz, h1, h2, fun j x hx => ?_⟩
  rw [List.getElem?_take] at hx
  split at hx
  · rw [List.getElem?_drop] at hx
    have := h3 (a + j) x hx
    rw [show o + a * 4 + j * 4 = o + (a + j) * 4 by omega]
    exact this
  · simp at hx
theorem win_whole {σ : Heap} {n : Nat} {L : List Tk} {ow : Bool} {sz : Nat} (h : look σ n = some ⟨L.flatMap Tk.cells, ow, sz⟩) (hs : ow = false ∨ sz = 4) : Win σ n 0 L :=
  ⟨_, ow, sz, h, hs, fun j x hx => by
    have hj := (List.getElem?_eq_some_iff.1 hx).1
    exact ⟨by rw [Nat.zero_add]; exact Tk.take hx, by rw [Tk.len]; omega⟩⟩
theorem win_cell {cells : List Value} {a : Nat} {x : Tk} (h : (cells.drop a).take 4 = x.cells) (k : Nat) (hk : k < 4) : cells[a + k]? = x.cells[k]? := by
  rw [← h, List.getElem?_take, if_pos hk, List.getElem?_drop]

theorem f50_ok (X : Ext) (x : Tk) (σ : Heap) : CW Tryd.prog X 50 [.agg x.cells.toArray] σ fun v σ' => v = .int .i64 (if x.kind = 3 then lvlT x.text else 0) ∧ σ <+: σ' := by
  refine cw_in Tryd.func50 rfl Tryd.ntmps50 (rs := [.tmp 2]) rfl (by kernel_rfl) (by exact Nat.le_of_ble_eq_true rfl) ?_
  by_cases h3 : x.kind = 3
  · unfold lvlT
    by_cases a0 : x.text = [124]
    · simp only [go_sem, ↓reduceIte, Nat.reduceEqDiff, Nat.reduceAdd, Nat.reduceMul, Nat.reduceLT, Nat.reduceLeDiff, Int.reduceLT, Int.reduceLE, Int.reduceNeg, Int.reduceAdd, Int.reduceSub, Int.reduceMul, Int.reduceToNat, Int.reduceEq, Int.reduceNe, Int.cast_ofNat_Int, Int.natCast_one, Int.natCast_zero, Int.natCast_add, reduceCtorEq, Tk.cells, h3, true_or, or_true, false_or, or_false, or_self, eq_true a0, eq_true a0]
      first | exact List.prefix_append _ _ | exact ⟨rfl, List.prefix_append _ _⟩
    by_cases a1 : x.text = [94]
    · simp only [go_sem, ↓reduceIte, Nat.reduceEqDiff, Nat.reduceAdd, Nat.reduceMul, Nat.reduceLT, Nat.reduceLeDiff, Int.reduceLT, Int.reduceLE, Int.reduceNeg, Int.reduceAdd, Int.reduceSub, Int.reduceMul, Int.reduceToNat, Int.reduceEq, Int.reduceNe, Int.cast_ofNat_Int, Int.natCast_one, Int.natCast_zero, Int.natCast_add, reduceCtorEq, Tk.cells, h3, true_or, or_true, false_or, or_false, or_self, eq_false a0, eq_true a1]
      first | exact List.prefix_append _ _ | exact ⟨rfl, List.prefix_append _ _⟩
    by_cases a2 : x.text = [38]
    · simp only [go_sem, ↓reduceIte, Nat.reduceEqDiff, Nat.reduceAdd, Nat.reduceMul, Nat.reduceLT, Nat.reduceLeDiff, Int.reduceLT, Int.reduceLE, Int.reduceNeg, Int.reduceAdd, Int.reduceSub, Int.reduceMul, Int.reduceToNat, Int.reduceEq, Int.reduceNe, Int.cast_ofNat_Int, Int.natCast_one, Int.natCast_zero, Int.natCast_add, reduceCtorEq, Tk.cells, h3, true_or, or_true, false_or, or_false, or_self, eq_false a0, eq_false a1, eq_true a2]
      first | exact List.prefix_append _ _ | exact ⟨rfl, List.prefix_append _ _⟩
    by_cases a3 : x.text = [60, 60]
    · simp only [go_sem, ↓reduceIte, Nat.reduceEqDiff, Nat.reduceAdd, Nat.reduceMul, Nat.reduceLT, Nat.reduceLeDiff, Int.reduceLT, Int.reduceLE, Int.reduceNeg, Int.reduceAdd, Int.reduceSub, Int.reduceMul, Int.reduceToNat, Int.reduceEq, Int.reduceNe, Int.cast_ofNat_Int, Int.natCast_one, Int.natCast_zero, Int.natCast_add, reduceCtorEq, Tk.cells, h3, true_or, or_true, false_or, or_false, or_self, eq_false a0, eq_false a1, eq_false a2, eq_true a3]
      first | exact List.prefix_append _ _ | exact ⟨rfl, List.prefix_append _ _⟩
    by_cases a4 : x.text = [62, 62]
    · simp only [go_sem, ↓reduceIte, Nat.reduceEqDiff, Nat.reduceAdd, Nat.reduceMul, Nat.reduceLT, Nat.reduceLeDiff, Int.reduceLT, Int.reduceLE, Int.reduceNeg, Int.reduceAdd, Int.reduceSub, Int.reduceMul, Int.reduceToNat, Int.reduceEq, Int.reduceNe, Int.cast_ofNat_Int, Int.natCast_one, Int.natCast_zero, Int.natCast_add, reduceCtorEq, Tk.cells, h3, true_or, or_true, false_or, or_false, or_self, eq_false a0, eq_false a1, eq_false a2, eq_false a3, eq_true a4]
      first | exact List.prefix_append _ _ | exact ⟨rfl, List.prefix_append _ _⟩
    by_cases a5 : x.text = [43]
    · simp only [go_sem, ↓reduceIte, Nat.reduceEqDiff, Nat.reduceAdd, Nat.reduceMul, Nat.reduceLT, Nat.reduceLeDiff, Int.reduceLT, Int.reduceLE, Int.reduceNeg, Int.reduceAdd, Int.reduceSub, Int.reduceMul, Int.reduceToNat, Int.reduceEq, Int.reduceNe, Int.cast_ofNat_Int, Int.natCast_one, Int.natCast_zero, Int.natCast_add, reduceCtorEq, Tk.cells, h3, true_or, or_true, false_or, or_false, or_self, eq_false a0, eq_false a1, eq_false a2, eq_false a3, eq_false a4, eq_true a5]
      first | exact List.prefix_append _ _ | exact ⟨rfl, List.prefix_append _ _⟩
    by_cases a6 : x.text = [45]
    · simp only [go_sem, ↓reduceIte, Nat.reduceEqDiff, Nat.reduceAdd, Nat.reduceMul, Nat.reduceLT, Nat.reduceLeDiff, Int.reduceLT, Int.reduceLE, Int.reduceNeg, Int.reduceAdd, Int.reduceSub, Int.reduceMul, Int.reduceToNat, Int.reduceEq, Int.reduceNe, Int.cast_ofNat_Int, Int.natCast_one, Int.natCast_zero, Int.natCast_add, reduceCtorEq, Tk.cells, h3, true_or, or_true, false_or, or_false, or_self, eq_false a0, eq_false a1, eq_false a2, eq_false a3, eq_false a4, eq_false a5, eq_true a6]
      first | exact List.prefix_append _ _ | exact ⟨rfl, List.prefix_append _ _⟩
    by_cases a7 : x.text = [42]
    · simp only [go_sem, ↓reduceIte, Nat.reduceEqDiff, Nat.reduceAdd, Nat.reduceMul, Nat.reduceLT, Nat.reduceLeDiff, Int.reduceLT, Int.reduceLE, Int.reduceNeg, Int.reduceAdd, Int.reduceSub, Int.reduceMul, Int.reduceToNat, Int.reduceEq, Int.reduceNe, Int.cast_ofNat_Int, Int.natCast_one, Int.natCast_zero, Int.natCast_add, reduceCtorEq, Tk.cells, h3, true_or, or_true, false_or, or_false, or_self, eq_false a0, eq_false a1, eq_false a2, eq_false a3, eq_false a4, eq_false a5, eq_false a6, eq_true a7]
      first | exact List.prefix_append _ _ | exact ⟨rfl, List.prefix_append _ _⟩
    by_cases a8 : x.text = [47]
    · simp only [go_sem, ↓reduceIte, Nat.reduceEqDiff, Nat.reduceAdd, Nat.reduceMul, Nat.reduceLT, Nat.reduceLeDiff, Int.reduceLT, Int.reduceLE, Int.reduceNeg, Int.reduceAdd, Int.reduceSub, Int.reduceMul, Int.reduceToNat, Int.reduceEq, Int.reduceNe, Int.cast_ofNat_Int, Int.natCast_one, Int.natCast_zero, Int.natCast_add, reduceCtorEq, Tk.cells, h3, true_or, or_true, false_or, or_false, or_self, eq_false a0, eq_false a1, eq_false a2, eq_false a3, eq_false a4, eq_false a5, eq_false a6, eq_false a7, eq_true a8]
      first | exact List.prefix_append _ _ | exact ⟨rfl, List.prefix_append _ _⟩
    by_cases a9 : x.text = [37]
    · simp only [go_sem, ↓reduceIte, Nat.reduceEqDiff, Nat.reduceAdd, Nat.reduceMul, Nat.reduceLT, Nat.reduceLeDiff, Int.reduceLT, Int.reduceLE, Int.reduceNeg, Int.reduceAdd, Int.reduceSub, Int.reduceMul, Int.reduceToNat, Int.reduceEq, Int.reduceNe, Int.cast_ofNat_Int, Int.natCast_one, Int.natCast_zero, Int.natCast_add, reduceCtorEq, Tk.cells, h3, true_or, or_true, false_or, or_false, or_self, eq_false a0, eq_false a1, eq_false a2, eq_false a3, eq_false a4, eq_false a5, eq_false a6, eq_false a7, eq_false a8, eq_true a9]
      first | exact List.prefix_append _ _ | exact ⟨rfl, List.prefix_append _ _⟩
    simp only [go_sem, ↓reduceIte, Nat.reduceEqDiff, Nat.reduceAdd, Nat.reduceMul, Nat.reduceLT, Nat.reduceLeDiff, Int.reduceLT, Int.reduceLE, Int.reduceNeg, Int.reduceAdd, Int.reduceSub, Int.reduceMul, Int.reduceToNat, Int.reduceEq, Int.reduceNe, Int.cast_ofNat_Int, Int.natCast_one, Int.natCast_zero, Int.natCast_add, reduceCtorEq, Tk.cells, h3, true_or, or_true, false_or, or_false, or_self, eq_false a0, eq_false a1, eq_false a2, eq_false a3, eq_false a4, eq_false a5, eq_false a6, eq_false a7, eq_false a8, eq_false a9]
    first | exact List.prefix_append _ _ | exact ⟨rfl, List.prefix_append _ _⟩
  · simp only [go_sem, ↓reduceIte, Nat.reduceEqDiff, Nat.reduceAdd, Nat.reduceMul, Nat.reduceLT, Nat.reduceLeDiff, Int.reduceLT, Int.reduceLE, Int.reduceNeg, Int.reduceAdd, Int.reduceSub, Int.reduceMul, Int.reduceToNat, Int.reduceEq, Int.reduceNe, Int.cast_ofNat_Int, Int.natCast_one, Int.natCast_zero, Int.natCast_add, reduceCtorEq, Tk.cells, h3]
    exact List.prefix_append _ _
theorem lvl_cls {x : Tk} (h : validT x = true) : (if x.kind = 3 then (lvlT x.text : Int) else 0) = ((cls x).lvl : Int) := by
  rcases valid_kind h with h1 | h1 | ⟨h1, h2⟩
  · simp [cls, h1, Cl.lvl]
  · simp [cls, h1, Cl.lvl]
  · rw [if_pos h1]
    unfold cls
    rw [if_neg (by omega), if_neg (by omega)]
    repeat' split
    all_goals first | (rename_i q; rw [q]; rfl) | rfl | skip
    all_goals simp_all [Cl.lvl]
theorem f51_ok (X : Ext) (s : List UInt8) (σ : Heap) : CW Tryd.prog X 51 [.string (str s)] σ fun v σ' => v = .int .i64 (if s ∈ ops then 5 + idx ops s else 0) ∧ σ <+: σ' := by
  refine cw_in Tryd.func51 rfl Tryd.ntmps51 (rs := [.tmp 2]) rfl (by kernel_rfl) (by exact Nat.le_of_ble_eq_true rfl) ?_
  simp only [go_sem, ↓reduceIte, Nat.reduceEqDiff, Nat.reduceAdd, Nat.reduceMul, Nat.reduceLT, Nat.reduceLeDiff, Int.reduceLT, Int.reduceLE, Int.reduceNeg, Int.reduceAdd, Int.reduceSub, Int.reduceMul, Int.reduceToNat, Int.reduceEq, Int.reduceNe, Int.cast_ofNat_Int, Int.natCast_one, Int.natCast_zero, Int.natCast_add, reduceCtorEq]
  refine LW_run (fun k T σ' => ∃ i : Nat, i + k = 10 ∧ σ' = σ ++ [some ⟨ops.map vstr, true, 1⟩] ∧ T 0 = .string (str s) ∧ T 3 = .slice (some ⟨σ.length, 0, none⟩) 10 10 ∧ T 4 = .int .i64 i ∧ s ∉ ops.take i) 10 ⟨0, by simp, rfl, rfl, rfl, rfl, by simp⟩ ?_
  rintro k T _ ⟨i, hk, rfl, t0, t3, t4, hv⟩
  simp only [go_sem, ↓reduceIte, Nat.reduceEqDiff, Nat.reduceAdd, Nat.reduceMul, Nat.reduceLT, Nat.reduceLeDiff, Int.reduceLT, Int.reduceLE, Int.reduceNeg, Int.reduceAdd, Int.reduceSub, Int.reduceMul, Int.reduceToNat, Int.reduceEq, Int.reduceNe, Int.cast_ofNat_Int, Int.natCast_one, Int.natCast_zero, Int.natCast_add, reduceCtorEq, t0, t3, t4]
  refine fork_dec (fun _ => ?_) (fun _ => ?_)
  · rename_i hi
    have hw : IntKind.i64.wrap ((i : Int) + 1) = (i : Int) + 1 := wrap64 (by omega)
    have hw5 : IntKind.i64.wrap (5 + (i : Int)) = 5 + (i : Int) := wrap64 (by omega)
    obtain ⟨x, hx⟩ : ∃ x, ops[i]? = some x := ⟨_, List.getElem?_eq_getElem (show i < ops.length by show i < 10; omega)⟩
    simp only [go_sem, ↓reduceIte, Nat.reduceEqDiff, Nat.reduceAdd, Nat.reduceMul, Nat.reduceLT, Nat.reduceLeDiff, Int.reduceLT, Int.reduceLE, Int.reduceNeg, Int.reduceAdd, Int.reduceSub, Int.reduceMul, Int.reduceToNat, Int.reduceEq, Int.reduceNe, Int.cast_ofNat_Int, Int.natCast_one, Int.natCast_zero, Int.natCast_add, reduceCtorEq, t0, t3, t4, hi, List.getElem?_map, hx, vstr]
    refine fork_dec (fun _ => ?_) (fun _ => ?_)
    · rename_i he
      subst he
      simp only [go_sem, ↓reduceIte, Nat.reduceEqDiff, Nat.reduceAdd, Nat.reduceMul, Nat.reduceLT, Nat.reduceLeDiff, Int.reduceLT, Int.reduceLE, Int.reduceNeg, Int.reduceAdd, Int.reduceSub, Int.reduceMul, Int.reduceToNat, Int.reduceEq, Int.reduceNe, Int.cast_ofNat_Int, Int.natCast_one, Int.natCast_zero, Int.natCast_add, reduceCtorEq, t0, t3, t4, hw5]
      rw [if_pos (List.mem_of_getElem? hx), idx_hit ops x i hx hv]
      exact ⟨rfl, List.prefix_append _ _⟩
    · rename_i he
      simp only [go_sem, ↓reduceIte, Nat.reduceEqDiff, Nat.reduceAdd, Nat.reduceMul, Nat.reduceLT, Nat.reduceLeDiff, Int.reduceLT, Int.reduceLE, Int.reduceNeg, Int.reduceAdd, Int.reduceSub, Int.reduceMul, Int.reduceToNat, Int.reduceEq, Int.reduceNe, Int.cast_ofNat_Int, Int.natCast_one, Int.natCast_zero, Int.natCast_add, reduceCtorEq, t0, t3, t4, hw, he]
      refine ⟨k - 1, by omega, i + 1, by omega, ?_⟩
      (repeat' (first | exact rfl | apply And.intro))
      exact not_take hx hv he
  · rename_i hi
    simp only [go_sem, ↓reduceIte, Nat.reduceEqDiff, Nat.reduceAdd, Nat.reduceMul, Nat.reduceLT, Nat.reduceLeDiff, Int.reduceLT, Int.reduceLE, Int.reduceNeg, Int.reduceAdd, Int.reduceSub, Int.reduceMul, Int.reduceToNat, Int.reduceEq, Int.reduceNe, Int.cast_ofNat_Int, Int.natCast_one, Int.natCast_zero, Int.natCast_add, reduceCtorEq, t0, hi]
    have e : i = 10 := by omega
    subst e
    rw [if_neg (show ¬ s ∈ ops by simpa [ops] using hv)]
    exact ⟨rfl, List.prefix_append _ _⟩

/-! ### nodes, appended -/
theorem nv_len {b : Nat} {σ : Heap} {nodes : List Nd} {nv : Value} (h : NV b σ nodes nv) : alen Tryd.prog #[24] [nv] = some (.int .i64 nodes.length) := by
  rcases h with ⟨rfl, rfl⟩ | ⟨q, c, rfl, -⟩
  · exact ln24
  · exact ln24
theorem NV.mono {b : Nat} {σ σ' : Heap} {nodes : List Nd} {nv : Value} (h : NV b σ nodes nv) (hp : σ <+: σ') : NV b σ' nodes nv := by
  rcases h with h | ⟨q, c, h1, h2, h3, h4⟩
  · exact .inl h
  · exact .inr ⟨q, c, h1, h2, h3, look_prefix hp h4⟩
theorem app_nd {σ0 σ : Heap} {nodes : List Nd} {nv : Value} (hp : σ0 <+: σ) (h : NV σ0.length σ nodes nv) (x : Nd) (hs : (nodes.length + 1 + 410) * 48 ≤ 225179981368524) :
    ∃ nv' σ', aappend Tryd.prog (σ ++ [some ⟨x.cells, true, 5⟩]) #[24, 24] nv (.slice (some ⟨σ.length, 0, none⟩) 1 1) = some (nv', σ') ∧ σ0 <+: σ' ∧ NV σ0.length σ' (nodes ++ [x]) nv' := by
  have hsrc : asrc (σ ++ [some ⟨x.cells, true, 5⟩]) 5 (.slice (some ⟨σ.length, 0, none⟩) 1 1) = some (1, x.cells) := by
    rw [src_ptr (b := ⟨x.cells, true, 5⟩) (by rw [look_app_new, look_zero]) (by simp [Nd.cells])]
    rfl
  have hl := hp.length_le
  rcases h with ⟨rfl, rfl⟩ | ⟨q, c, rfl, h2, h3, h4⟩
  · rw [an24_24, hsrc, Option.bind_some, if_pos (by omega)]
    refine ⟨_, _, rfl, (hp.trans (List.prefix_append _ _)).trans (List.prefix_append _ _), .inr ⟨_, _, rfl, by simp; omega, by simp, ?_⟩⟩
    rw [look_app_new, look_zero]
    simp
  · have hq := look_lt h4
    have hnl := Nd.len nodes
    rw [ap24_24, hsrc, Option.bind_some, if_pos (by simpa using hs), if_neg (by omega), look_app_lt hq, h4, Option.bind_some, if_pos (by simp [hnl])]
    refine ⟨_, _, rfl, (prefix_set (hp.trans (List.prefix_append _ _)) h2).trans (List.prefix_append _ _), .inr ⟨(σ ++ [some (⟨x.cells, true, 5⟩ : Blk)]).length, nodes.length + 1 + 1, by simp, by simp; omega, by simp, ?_⟩⟩
    have hh := look_app_new (σ := (σ ++ [some (⟨x.cells, true, 5⟩ : Blk)]).set q none) (l := [some ⟨nodes.flatMap Nd.cells ++ x.cells, true, 5⟩])
    rw [List.length_set] at hh
    rw [List.drop_zero, hh, look_zero, List.flatMap_append]
    simp
end Go.Proofs.YtkgdkommahgakaaDoor.Abs
