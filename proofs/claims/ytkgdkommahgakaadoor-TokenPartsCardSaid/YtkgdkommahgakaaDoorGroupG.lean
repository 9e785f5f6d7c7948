/- Part GroupG of the proof: an abstract machine for the program's calls, and what functions do on it. It has no conditions. -/
import Derived.Test.YtkgdkommahgakaaDoorGroupE
import Derived.Test.YtkgdkommahgakaaDoorGroupB
import Derived.Test.YtkgdkommahgakaaDoorGroupF
namespace Go.Proofs.YtkgdkommahgakaaDoor.Abs
open Go Go.RowKit Gram
set_option linter.unusedVariables false
set_option linter.unusedSimpArgs false
set_option maxRecDepth 100000

/-! ### a window on tokens -/
def Win (σ : Heap) (n o : Nat) (L : List Tk) : Prop := ∃ cells ow sz, look σ n = some ⟨cells, ow, sz⟩ ∧ (ow = false ∨ sz = 4) ∧ ∀ j x, L[j]? = some x → (cells.drop (o + j * 4)).take 4 = x.cells ∧ o + j * 4 + 4 ≤ cells.length
theorem Win.mono {σ σ' : Heap} {n o : Nat} {L : List Tk} (h : Win σ n o L) (hp : σ <+: σ') : Win σ' n o L := by
  obtain ⟨cells, ow, sz, h1, h2⟩ := h
  exact ⟨cells, ow, sz, look_prefix hp h1, h2⟩
theorem Win.sub {σ : Heap} {n o : Nat} {L : List Tk} (h : Win σ n o L) (a m : Nat) : Win σ n (o + a * 4) ((L.drop a).take m) := by
  obtain ⟨cells, ow, sz, h1, h2, h3⟩ := h
  refine ⟨cells, ow, sz, h1, h2, fun j x hx => ?_⟩
  rw [List.getElem?_take] at hx
  split at hx
  · rw [List.getElem?_drop] at hx
    have := h3 (a + j) x hx
    rw [show o + a * 4 + j * 4 = o + (a + j) * 4 by omega]
    exact this
  · simp at hx
theorem win_whole {σ : Heap} {n : Nat} {L : List Tk} {ow : Bool} {sz : Nat} (h : look σ n = some ⟨L.flatMap Tk.cells, ow, sz⟩) (hs : ow = false ∨ sz = 4) : Win σ n 0 L :=
  ⟨_, ow, sz, h, hs, fun j x hx => by
    have hj := (List.getElem?_eq_some_iff.1 hx).1
    exact ⟨by rw [Nat.zero_add]; exact Tk.take hx, by rw [Tk.len]; omega⟩⟩
theorem win_cell {cells : List Value} {a : Nat} {x : Tk} (h : (cells.drop a).take 4 = x.cells) (k : Nat) (hk : k < 4) : cells[a + k]? = x.cells[k]? := by
  rw [← h, List.getElem?_take, if_pos hk, List.getElem?_drop]

theorem f50_ok (X : Ext) (x : Tk) (σ : Heap) : CW Tryd.prog X 50 [.agg x.cells.toArray] σ fun v σ' => v = .int .i64 (if x.kind = 3 then lvlT x.text else 0) ∧ σ <+: σ' := by
  refine cw_in Tryd.func50 rfl Tryd.ntmps50 (rs := [.tmp 2]) rfl (by kernel_rfl) (by exact Nat.le_of_ble_eq_true rfl) ?_
  by_cases h3 : x.kind = 3
  · unfold lvlT
    by_cases a0 : x.text = [124]
    · simp only [go_sem, ↓reduceIte, Nat.reduceEqDiff, Nat.reduceAdd, Nat.reduceMul, Nat.reduceLT, Nat.reduceLeDiff, Int.reduceLT, Int.reduceLE, Int.reduceNeg, Int.reduceAdd, Int.reduceSub, Int.reduceMul, Int.reduceToNat, Int.reduceEq, Int.reduceNe, Int.cast_ofNat_Int, Int.natCast_one, Int.natCast_zero, Int.natCast_add, reduceCtorEq, Tk.cells, h3, true_or, or_true, false_or, or_false, or_self, eq_true a0, eq_true a0]
      first | exact List.prefix_append _ _ | exact ⟨rfl, List.prefix_append _ _⟩
    by_cases a1 : x.text = [94]
    · simp only [go_sem, ↓reduceIte, Nat.reduceEqDiff, Nat.reduceAdd, Nat.reduceMul, Nat.reduceLT, Nat.reduceLeDiff, Int.reduceLT, Int.reduceLE, Int.reduceNeg, Int.reduceAdd, Int.reduceSub, Int.reduceMul, Int.reduceToNat, Int.reduceEq, Int.reduceNe, Int.cast_ofNat_Int, Int.natCast_one, Int.natCast_zero, Int.natCast_add, reduceCtorEq, Tk.cells, h3, true_or, or_true, false_or, or_false, or_self, eq_false a0, eq_true a1]
      first | exact List.prefix_append _ _ | exact ⟨rfl, List.prefix_append _ _⟩
    by_cases a2 : x.text = [38]
    · simp only [go_sem, ↓reduceIte, Nat.reduceEqDiff, Nat.reduceAdd, Nat.reduceMul, Nat.reduceLT, Nat.reduceLeDiff, Int.reduceLT, Int.reduceLE, Int.reduceNeg, Int.reduceAdd, Int.reduceSub, Int.reduceMul, Int.reduceToNat, Int.reduceEq, Int.reduceNe, Int.cast_ofNat_Int, Int.natCast_one, Int.natCast_zero, Int.natCast_add, reduceCtorEq, Tk.cells, h3, true_or, or_true, false_or, or_false, or_self, eq_false a0, eq_false a1, eq_true a2]
      first | exact List.prefix_append _ _ | exact ⟨rfl, List.prefix_append _ _⟩
    by_cases a3 : x.text = [60, 60]
    · simp only [go_sem, ↓reduceIte, Nat.reduceEqDiff, Nat.reduceAdd, Nat.reduceMul, Nat.reduceLT, Nat.reduceLeDiff, Int.reduceLT, Int.reduceLE, Int.reduceNeg, Int.reduceAdd, Int.reduceSub, Int.reduceMul, Int.reduceToNat, Int.reduceEq, Int.reduceNe, Int.cast_ofNat_Int, Int.natCast_one, Int.natCast_zero, Int.natCast_add, reduceCtorEq, Tk.cells, h3, true_or, or_true, false_or, or_false, or_self, eq_false a0, eq_false a1, eq_false a2, eq_true a3]
      first | exact List.prefix_append _ _ | exact ⟨rfl, List.prefix_append _ _⟩
    by_cases a4 : x.text = [62, 62]
    · simp only [go_sem, ↓reduceIte, Nat.reduceEqDiff, Nat.reduceAdd, Nat.reduceMul, Nat.reduceLT, Nat.reduceLeDiff, Int.reduceLT, Int.reduceLE, Int.reduceNeg, Int.reduceAdd, Int.reduceSub, Int.reduceMul, Int.reduceToNat, Int.reduceEq, Int.reduceNe, Int.cast_ofNat_Int, Int.natCast_one, Int.natCast_zero, Int.natCast_add, reduceCtorEq, Tk.cells, h3, true_or, or_true, false_or, or_false, or_self, eq_false a0, eq_false a1, eq_false a2, eq_false a3, eq_true a4]
      first | exact List.prefix_append _ _ | exact ⟨rfl, List.prefix_append _ _⟩
    by_cases a5 : x.text = [43]
    · simp only [go_sem, ↓reduceIte, Nat.reduceEqDiff, Nat.reduceAdd, Nat.reduceMul, Nat.reduceLT, Nat.reduceLeDiff, Int.reduceLT, Int.reduceLE, Int.reduceNeg, Int.reduceAdd, Int.reduceSub, Int.reduceMul, Int.reduceToNat, Int.reduceEq, Int.reduceNe, Int.cast_ofNat_Int, Int.natCast_one, Int.natCast_zero, Int.natCast_add, reduceCtorEq, Tk.cells, h3, true_or, or_true, false_or, or_false, or_self, eq_false a0, eq_false a1, eq_false a2, eq_false a3, eq_false a4, eq_true a5]
      first | exact List.prefix_append _ _ | exact ⟨rfl, List.prefix_append _ _⟩
    by_cases a6 : x.text = [45]
    · simp only [go_sem, ↓reduceIte, Nat.reduceEqDiff, Nat.reduceAdd, Nat.reduceMul, Nat.reduceLT, Nat.reduceLeDiff, Int.reduceLT, Int.reduceLE, Int.reduceNeg, Int.reduceAdd, Int.reduceSub, Int.reduceMul, Int.reduceToNat, Int.reduceEq, Int.reduceNe, Int.cast_ofNat_Int, Int.natCast_one, Int.natCast_zero, Int.natCast_add, reduceCtorEq, Tk.cells, h3, true_or, or_true, false_or, or_false, or_self, eq_false a0, eq_false a1, eq_false a2, eq_false a3, eq_false a4, eq_false a5, eq_true a6]
      first | exact List.prefix_append _ _ | exact ⟨rfl, List.prefix_append _ _⟩
    by_cases a7 : x.text = [42]
    · simp only [go_sem, ↓reduceIte, Nat.reduceEqDiff, Nat.reduceAdd, Nat.reduceMul, Nat.reduceLT, Nat.reduceLeDiff, Int.reduceLT, Int.reduceLE, Int.reduceNeg, Int.reduceAdd, Int.reduceSub, Int.reduceMul, Int.reduceToNat, Int.reduceEq, Int.reduceNe, Int.cast_ofNat_Int, Int.natCast_one, Int.natCast_zero, Int.natCast_add, reduceCtorEq, Tk.cells, h3, true_or, or_true, false_or, or_false, or_self, eq_false a0, eq_false a1, eq_false a2, eq_false a3, eq_false a4, eq_false a5, eq_false a6, eq_true a7]
      first | exact List.prefix_append _ _ | exact ⟨rfl, List.prefix_append _ _⟩
    by_cases a8 : x.text = [47]
    · simp only [go_sem, ↓reduceIte, Nat.reduceEqDiff, Nat.reduceAdd, Nat.reduceMul, Nat.reduceLT, Nat.reduceLeDiff, Int.reduceLT, Int.reduceLE, Int.reduceNeg, Int.reduceAdd, Int.reduceSub, Int.reduceMul, Int.reduceToNat, Int.reduceEq, Int.reduceNe, Int.cast_ofNat_Int, Int.natCast_one, Int.natCast_zero, Int.natCast_add, reduceCtorEq, Tk.cells, h3, true_or, or_true, false_or, or_false, or_self, eq_false a0, eq_false a1, eq_false a2, eq_false a3, eq_false a4, eq_false a5, eq_false a6, eq_false a7, eq_true a8]
      first | exact List.prefix_append _ _ | exact ⟨rfl, List.prefix_append _ _⟩
    by_cases a9 : x.text = [37]
    · simp only [go_sem, ↓reduceIte, Nat.reduceEqDiff, Nat.reduceAdd, Nat.reduceMul, Nat.reduceLT, Nat.reduceLeDiff, Int.reduceLT, Int.reduceLE, Int.reduceNeg, Int.reduceAdd, Int.reduceSub, Int.reduceMul, Int.reduceToNat, Int.reduceEq, Int.reduceNe, Int.cast_ofNat_Int, Int.natCast_one, Int.natCast_zero, Int.natCast_add, reduceCtorEq, Tk.cells, h3, true_or, or_true, false_or, or_false, or_self, eq_false a0, eq_false a1, eq_false a2, eq_false a3, eq_false a4, eq_false a5, eq_false a6, eq_false a7, eq_false a8, eq_true a9]
      first | exact List.prefix_append _ _ | exact ⟨rfl, List.prefix_append _ _⟩
    simp only [go_sem, ↓reduceIte, Nat.reduceEqDiff, Nat.reduceAdd, Nat.reduceMul, Nat.reduceLT, Nat.reduceLeDiff, Int.reduceLT, Int.reduceLE, Int.reduceNeg, Int.reduceAdd, Int.reduceSub, Int.reduceMul, Int.reduceToNat, Int.reduceEq, Int.reduceNe, Int.cast_ofNat_Int, Int.natCast_one, Int.natCast_zero, Int.natCast_add, reduceCtorEq, Tk.cells, h3, true_or, or_true, false_or, or_false, or_self, eq_false a0, eq_false a1, eq_false a2, eq_false a3, eq_false a4, eq_false a5, eq_false a6, eq_false a7, eq_false a8, eq_false a9]
    first | exact List.prefix_append _ _ | exact ⟨rfl, List.prefix_append _ _⟩
  · simp only [go_sem, ↓reduceIte, Nat.reduceEqDiff, Nat.reduceAdd, Nat.reduceMul, Nat.reduceLT, Nat.reduceLeDiff, Int.reduceLT, Int.reduceLE, Int.reduceNeg, Int.reduceAdd, Int.reduceSub, Int.reduceMul, Int.reduceToNat, Int.reduceEq, Int.reduceNe, Int.cast_ofNat_Int, Int.natCast_one, Int.natCast_zero, Int.natCast_add, reduceCtorEq, Tk.cells, h3]
    exact List.prefix_append _ _
theorem lvl_cls {x : Tk} (h : validT x = true) : (if x.kind = 3 then (lvlT x.text : Int) else 0) = ((cls x).lvl : Int) := by
  rcases valid_kind h with h1 | h1 | ⟨h1, h2⟩
  · simp [cls, h1, Cl.lvl]
  · simp [cls, h1, Cl.lvl]
  · rw [if_pos h1]
    unfold cls
    rw [if_neg (by omega), if_neg (by omega)]
    repeat' split
    all_goals first | (rename_i q; rw [q]; rfl) | rfl | skip
    all_goals simp_all [Cl.lvl]
theorem f51_ok (X : Ext) (s : List UInt8) (σ : Heap) : CW Tryd.prog X 51 [.string (str s)] σ fun v σ' => v = .int .i64 (if s ∈ ops then 5 + idx ops s else 0) ∧ σ <+: σ' := by
  refine cw_in Tryd.func51 rfl Tryd.ntmps51 (rs := [.tmp 2]) rfl (by kernel_rfl) (by exact Nat.le_of_ble_eq_true rfl) ?_
  simp only [go_sem, ↓reduceIte, Nat.reduceEqDiff, Nat.reduceAdd, Nat.reduceMul, Nat.reduceLT, Nat.reduceLeDiff, Int.reduceLT, Int.reduceLE, Int.reduceNeg, Int.reduceAdd, Int.reduceSub, Int.reduceMul, Int.reduceToNat, Int.reduceEq, Int.reduceNe, Int.cast_ofNat_Int, Int.natCast_one, Int.natCast_zero, Int.natCast_add, reduceCtorEq]
  refine LW_run (fun k T σ' => ∃ i : Nat, i + k = 10 ∧ σ' = σ ++ [some ⟨ops.map vstr, true, 1⟩] ∧ T 0 = .string (str s) ∧ T 3 = .slice (some ⟨σ.length, 0, none⟩) 10 10 ∧ T 4 = .int .i64 i ∧ s ∉ ops.take i) 10 ⟨0, by simp, rfl, rfl, rfl, rfl, by simp⟩ ?_
  rintro k T _ ⟨i, hk, rfl, t0, t3, t4, hv⟩
  simp only [go_sem, ↓reduceIte, Nat.reduceEqDiff, Nat.reduceAdd, Nat.reduceMul, Nat.reduceLT, Nat.reduceLeDiff, Int.reduceLT, Int.reduceLE, Int.reduceNeg, Int.reduceAdd, Int.reduceSub, Int.reduceMul, Int.reduceToNat, Int.reduceEq, Int.reduceNe, Int.cast_ofNat_Int, Int.natCast_one, Int.natCast_zero, Int.natCast_add, reduceCtorEq, t0, t3, t4]
  refine fork_dec (fun _ => ?_) (fun _ => ?_)
  · rename_i hi
    have hw : IntKind.i64.wrap ((i : Int) + 1) = (i : Int) + 1 := wrap64 (by omega)
    have hw5 : IntKind.i64.wrap (5 + (i : Int)) = 5 + (i : Int) := wrap64 (by omega)
    obtain ⟨x, hx⟩ : ∃ x, ops[i]? = some x := ⟨_, List.getElem?_eq_getElem (show i < ops.length by show i < 10; omega)⟩
    simp only [go_sem, ↓reduceIte, Nat.reduceEqDiff, Nat.reduceAdd, Nat.reduceMul, Nat.reduceLT, Nat.reduceLeDiff, Int.reduceLT, Int.reduceLE, Int.reduceNeg, Int.reduceAdd, Int.reduceSub, Int.reduceMul, Int.reduceToNat, Int.reduceEq, Int.reduceNe, Int.cast_ofNat_Int, Int.natCast_one, Int.natCast_zero, Int.natCast_add, reduceCtorEq, t0, t3, t4, hi, List.getElem?_map, hx, vstr]
    refine fork_dec (fun _ => ?_) (fun _ => ?_)
    · rename_i he
      subst he
      simp only [go_sem, ↓reduceIte, Nat.reduceEqDiff, Nat.reduceAdd, Nat.reduceMul, Nat.reduceLT, Nat.reduceLeDiff, Int.reduceLT, Int.reduceLE, Int.reduceNeg, Int.reduceAdd, Int.reduceSub, Int.reduceMul, Int.reduceToNat, Int.reduceEq, Int.reduceNe, Int.cast_ofNat_Int, Int.natCast_one, Int.natCast_zero, Int.natCast_add, reduceCtorEq, t0, t3, t4, hw5]
      rw [if_pos (List.mem_of_getElem? hx), idx_hit ops x i hx hv]
      exact ⟨rfl, List.prefix_append _ _⟩
    · rename_i he
      simp only [go_sem, ↓reduceIte, Nat.reduceEqDiff, Nat.reduceAdd, Nat.reduceMul, Nat.reduceLT, Nat.reduceLeDiff, Int.reduceLT, Int.reduceLE, Int.reduceNeg, Int.reduceAdd, Int.reduceSub, Int.reduceMul, Int.reduceToNat, Int.reduceEq, Int.reduceNe, Int.cast_ofNat_Int, Int.natCast_one, Int.natCast_zero, Int.natCast_add, reduceCtorEq, t0, t3, t4, hw, he]
      refine ⟨k - 1, by omega, i + 1, by omega, ?_⟩
      (repeat' (first | exact rfl | apply And.intro))
      exact not_take hx hv he
  · rename_i hi
    simp only [go_sem, ↓reduceIte, Nat.reduceEqDiff, Nat.reduceAdd, Nat.reduceMul, Nat.reduceLT, Nat.reduceLeDiff, Int.reduceLT, Int.reduceLE, Int.reduceNeg, Int.reduceAdd, Int.reduceSub, Int.reduceMul, Int.reduceToNat, Int.reduceEq, Int.reduceNe, Int.cast_ofNat_Int, Int.natCast_one, Int.natCast_zero, Int.natCast_add, reduceCtorEq, t0, hi]
    have e : i = 10 := by omega
    subst e
    rw [if_neg (show ¬ s ∈ ops by simpa [ops] using hv)]
    exact ⟨rfl, List.prefix_append _ _⟩

/-! ### nodes, appended -/
theorem nv_len {b : Nat} {σ : Heap} {nodes : List Nd} {nv : Value} (h : NV b σ nodes nv) : alen Tryd.prog #[24] [nv] = some (.int .i64 nodes.length) := by
  rcases h with ⟨rfl, rfl⟩ | ⟨q, c, rfl, -⟩
  · exact ln24
  · exact ln24
theorem NV.mono {b : Nat} {σ σ' : Heap} {nodes : List Nd} {nv : Value} (h : NV b σ nodes nv) (hp : σ <+: σ') : NV b σ' nodes nv := by
  rcases h with h | ⟨q, c, h1, h2, h3, h4⟩
  · exact .inl h
  · exact .inr ⟨q, c, h1, h2, h3, look_prefix hp h4⟩
theorem app_nd {σ0 σ : Heap} {nodes : List Nd} {nv : Value} (hp : σ0 <+: σ) (h : NV σ0.length σ nodes nv) (x : Nd) (hs : (nodes.length + 1 + 410) * 48 ≤ 225179981368524) :
    ∃ nv' σ', aappend Tryd.prog (σ ++ [some ⟨x.cells, true, 5⟩]) #[24, 24] nv (.slice (some ⟨σ.length, 0, none⟩) 1 1) = some (nv', σ') ∧ σ0 <+: σ' ∧ NV σ0.length σ' (nodes ++ [x]) nv' := by
  have hsrc : asrc (σ ++ [some ⟨x.cells, true, 5⟩]) 5 (.slice (some ⟨σ.length, 0, none⟩) 1 1) = some (1, x.cells) := by
    rw [src_ptr (b := ⟨x.cells, true, 5⟩) (by rw [look_app_new, look_zero]) (by simp [Nd.cells])]
    rfl
  have hl := hp.length_le
  rcases h with ⟨rfl, rfl⟩ | ⟨q, c, rfl, h2, h3, h4⟩
  · rw [an24_24, hsrc, Option.bind_some, if_pos (by omega)]
    refine ⟨_, _, rfl, (hp.trans (List.prefix_append _ _)).trans (List.prefix_append _ _), .inr ⟨_, _, rfl, by simp; omega, by simp, ?_⟩⟩
    rw [look_app_new, look_zero]
    simp
  · have hq := look_lt h4
    have hnl := Nd.len nodes
    rw [ap24_24, hsrc, Option.bind_some, if_pos (by simpa using hs), if_neg (by omega), look_app_lt hq, h4, Option.bind_some, if_pos (by simp [hnl])]
    refine ⟨_, _, rfl, (prefix_set (hp.trans (List.prefix_append _ _)) h2).trans (List.prefix_append _ _), .inr ⟨(σ ++ [some (⟨x.cells, true, 5⟩ : Blk)]).length, nodes.length + 1 + 1, by simp, by simp; omega, by simp, ?_⟩⟩
    have hh := look_app_new (σ := (σ ++ [some (⟨x.cells, true, 5⟩ : Blk)]).set q none) (l := [some ⟨nodes.flatMap Nd.cells ++ x.cells, true, 5⟩])
    rw [List.length_set] at hh
    rw [List.drop_zero, hh, look_zero, List.flatMap_append]
    simp
end Go.Proofs.YtkgdkommahgakaaDoor.Abs

namespace Go.Proofs.YtkgdkommahgakaaDoor.Abs
open Go Go.RowKit Gram
set_option linter.unusedVariables false
set_option linter.unusedSimpArgs false
set_option maxRecDepth 100000

attribute [go_sem] Int.le_refl true_or or_true Int.sub_zero
theorem der_size {k d : Nat} {l : List (Cl Nd)} {t : Tr Nd} (h : Der k d l t) : t.size ≤ l.length := by
  induction h with
  | atom => simp [Tr.size]
  | un => simp [Tr.size]; omega
  | par => simp; omega
  | up => assumption
  | bin => simp [Tr.size]; omega
theorem nd_size {F d : Nat} {L : List Tk} {t : Tr Nd} (h : nd F d (L.map cls) = some t) : t.size ≤ L.length := by
  have := der_size (nd_sound F d _ t (fun c hc => by obtain ⟨x, _, rfl⟩ := List.mem_map.1 hc; exact cls_ok x) h).1
  simpa using this
theorem cls_par (x : Tk) (hv : validT x = true) : (cls x).par = if x.kind = 3 ∧ x.text = [40] then 1 else if x.kind = 3 ∧ x.text = [41] then -1 else 0 := by
  rcases valid_kind hv with h1 | h1 | ⟨h1, h2⟩
  · simp [cls, h1, Cl.par, Cl.isL, Cl.isR]
  · simp [cls, h1, Cl.par, Cl.isL, Cl.isR]
  · unfold cls
    rw [if_neg (by omega), if_neg (by omega)]
    by_cases q1 : x.text = [40]
    · simp [q1, h1, Cl.par, Cl.isL]
    · by_cases q2 : x.text = [41]
      · simp [q1, q2, h1, Cl.par, Cl.isL, Cl.isR]
      · rw [if_neg q1, if_neg q2, if_neg (show ¬ (x.kind = 3 ∧ x.text = [40]) from fun h => q1 h.2), if_neg (show ¬ (x.kind = 3 ∧ x.text = [41]) from fun h => q2 h.2)]
        repeat' split
        all_goals rfl
theorem cls_ends (x : Tk) (hv : validT x = true) : (cls x).ends = if x.kind = 3 then decide (x.text = [41]) else true := by
  rcases valid_kind hv with h1 | h1 | ⟨h1, h2⟩
  · simp [cls, h1, Cl.ends]
  · simp [cls, h1, Cl.ends]
  · rw [if_pos h1]
    unfold cls
    rw [if_neg (by omega), if_neg (by omega)]
    by_cases q1 : x.text = [40]
    · rw [if_pos q1, q1]; rfl
    · by_cases q2 : x.text = [41]
      · rw [if_neg q1, if_pos q2, q2]; rfl
      · rw [if_neg q1, if_neg q2, decide_eq_false q2]
        repeat' split
        all_goals rfl
def eAt (L : List Tk) (i : Nat) : Bool := if i = 0 then false else (L[i - 1]?.map fun x => (cls x).ends).getD false
def bestI (b : Option (Nat × Nat)) : Int := match b with | none => -1 | some (i, _) => i
theorem eAt_succ {L : List Tk} {i : Nat} {x : Tk} (h : L[i]? = some x) : eAt L (i + 1) = (cls x).ends := by
  unfold eAt
  rw [if_neg (by omega), Nat.add_sub_cancel, h]
  rfl

theorem Win.slab {σ : Heap} {n o o' : Nat} {L : List Tk} (h : Win σ n o L) : sliceable σ 4 (some ⟨n, o', none⟩) = true := by
  obtain ⟨cells, ow, sz, h1, h2, _⟩ := h
  exact slab_i h1 h2
theorem lvl_ops {x : Tk} (hv : validT x = true) (h : 0 < (cls x).lvl) : x.kind = 3 ∧ x.text ∈ ops ∧ (cls x).kind = 5 + idx ops x.text := by
  have hk := cls_kind hv h
  rcases valid_kind hv with h1 | h1 | ⟨h1, h2⟩
  · simp [cls, h1, Cl.lvl] at h
  · simp [cls, h1, Cl.lvl] at h
  · have e : sgn x = x.text := by rw [sgn, if_pos h1]
    rw [e] at hk
    refine ⟨h1, ?_, hk⟩
    have := lvl_cls hv
    rw [if_pos h1] at this
    have h5 : lvlT x.text ≠ 0 := by omega
    have : ∀ t ∈ signs, lvlT t ≠ 0 → t ∈ ops := by decide
    exact this x.text h2 h5
theorem idx_ops (s : List UInt8) : -1 ≤ idx ops s ∧ idx ops s ≤ 9 := by
  refine ⟨idx_ge ops s, ?_⟩
  unfold ops
  simp only [idx]
  repeat' split
  all_goals omega
theorem less48 {a b : Nat} (h : a ≤ b) (hb : b * 48 ≤ 225179981368524) : a * 48 ≤ 225179981368524 := Nat.le_trans (Nat.mul_le_mul_right 48 h) hb
def NodesOk (F : Nat) : Prop := ∀ {σ0 σ : Heap} {n o c la : Nat} {L : List Tk} (d : Nat) {out : List Nd} {nv : Value}, Win σ0 n o L → (∀ x ∈ L, validT x = true) → σ0 <+: σ → NV σ0.length σ out nv → L.length < F → la = L.length → d ≤ 100 → (out.length + L.length + 410) * 48 ≤ 225179981368524 →
  CW Tryd.prog XL 21 [.slice (some ⟨n, o, none⟩) la c, nv, .int .i64 d] σ fun v σ' => σ0 <+: σ' ∧ match nd F d (L.map cls) with
    | some t => ∃ nv', v = .tuple #[nv', .bool true] ∧ NV σ0.length σ' (post t out) nv'
    | none => v = .tuple #[.slice none 0 0, .bool false]

set_option maxHeartbeats 1000000 in
theorem nodes_step {F : Nat} (ih : NodesOk F) : NodesOk (F + 1) := by
  intro σ0 σ n o c la L d out nv hW hv hp hN hF hla hd hbig
  subst hla
  refine cw_in Tryd.func21 rfl Tryd.ntmps21 (rs := [.tmp 6, .tmp 7]) rfl (by kernel_rfl) (by exact Nat.le_of_ble_eq_true rfl) ?_
  by_cases h0 : L.length = 0
  · simp only [go_sem, ↓reduceIte, Nat.reduceEqDiff, Nat.reduceAdd, Nat.reduceMul, Nat.reduceLT, Nat.reduceLeDiff, Int.reduceLT, Int.reduceLE, Int.reduceNeg, Int.reduceAdd, Int.reduceSub, Int.reduceMul, Int.reduceToNat, Int.reduceEq, Int.reduceNe, Int.cast_ofNat_Int, Int.natCast_one, Int.natCast_zero, Int.natCast_add, reduceCtorEq, show (L.length : Int) = 0 by omega]
    unfold nd
    rw [if_pos (by simp [h0])]
    exact ⟨hp, trivial⟩
  by_cases h8 : 8 < d
  · simp only [go_sem, ↓reduceIte, Nat.reduceEqDiff, Nat.reduceAdd, Nat.reduceMul, Nat.reduceLT, Nat.reduceLeDiff, Int.reduceLT, Int.reduceLE, Int.reduceNeg, Int.reduceAdd, Int.reduceSub, Int.reduceMul, Int.reduceToNat, Int.reduceEq, Int.reduceNe, Int.cast_ofNat_Int, Int.natCast_one, Int.natCast_zero, Int.natCast_add, reduceCtorEq, show ¬ (L.length : Int) = 0 by omega, show (8 : Int) < (d : Int) by omega]
    unfold nd
    rw [if_pos (by simp [h8])]
    exact ⟨hp, trivial⟩
  unfold nd
  rw [if_neg (by simp only [List.length_map]; omega)]
  simp only [go_sem, ↓reduceIte, Nat.reduceEqDiff, Nat.reduceAdd, Nat.reduceMul, Nat.reduceLT, Nat.reduceLeDiff, Int.reduceLT, Int.reduceLE, Int.reduceNeg, Int.reduceAdd, Int.reduceSub, Int.reduceMul, Int.reduceToNat, Int.reduceEq, Int.reduceNe, Int.cast_ofNat_Int, Int.natCast_one, Int.natCast_zero, Int.natCast_add, reduceCtorEq, show ¬ (L.length : Int) = 0 by omega, show ¬ (8 : Int) < (d : Int) by omega]
  refine LW_run (fun k T ρ => ∃ (i : Nat) (bt : Option (Nat × Nat)) (op : Int), i + k = L.length ∧ σ <+: ρ ∧ T 0 = .slice (some ⟨n, o, none⟩) L.length c ∧ T 1 = nv ∧ T 2 = .int .i64 d ∧ T 8 = .int .i64 (bestI bt) ∧ T 9 = .int .i64 op ∧ T 10 = .int .i64 i
    ∧ scan (L.map cls) 0 0 false none = scan ((L.drop i).map cls) i op (eAt L i) bt ∧ -(i : Int) ≤ op ∧ op ≤ i ∧ (∀ b m, bt = some (b, m) → b < i ∧ ∃ y, L[b]? = some y ∧ m = (cls y).lvl)) L.length
    ⟨0, none, 0, by simp, List.prefix_rfl, rfl, rfl, rfl, rfl, rfl, rfl, rfl, by simp, by simp, fun b m h => by simp at h⟩ ?_
  rintro k T ρ ⟨i, bt, op, hk, hpr, t0, t1, t2, t8, t9, t10, hsc, hop1, hop2, hbt⟩
  obtain ⟨cells, ow, sz, w1, w2, w3⟩ := hW.mono (hp.trans hpr)
  refine vc_cut (fun T' ρ' => ρ = ρ' ∧ T' 0 = .slice (some ⟨n, o, none⟩) L.length c ∧ T' 1 = nv ∧ T' 2 = .int .i64 d ∧ T' 8 = .int .i64 (bestI bt) ∧ T' 9 = .int .i64 op ∧ T' 10 = .int .i64 i ∧ i < L.length) ?_ ?_
  · simp only [go_sem, ↓reduceIte, Nat.reduceEqDiff, Nat.reduceAdd, Nat.reduceMul, Nat.reduceLT, Nat.reduceLeDiff, Int.reduceLT, Int.reduceLE, Int.reduceNeg, Int.reduceAdd, Int.reduceSub, Int.reduceMul, Int.reduceToNat, Int.reduceEq, Int.reduceNe, Int.cast_ofNat_Int, Int.natCast_one, Int.natCast_zero, Int.natCast_add, reduceCtorEq, t0, t1, t2, t8, t9, t10]
    refine fork_dec (fun _ => ?_) (fun _ => ?_)
    · rename_i hi
      simp only [go_sem, ↓reduceIte, Nat.reduceEqDiff, Nat.reduceAdd, Nat.reduceMul, Nat.reduceLT, Nat.reduceLeDiff, Int.reduceLT, Int.reduceLE, Int.reduceNeg, Int.reduceAdd, Int.reduceSub, Int.reduceMul, Int.reduceToNat, Int.reduceEq, Int.reduceNe, Int.cast_ofNat_Int, Int.natCast_one, Int.natCast_zero, Int.natCast_add, reduceCtorEq, t0, t1, t2, t8, t9, t10]
      omega
    · rename_i hi
      rw [List.drop_eq_nil_of_le (by omega), List.map_nil, scan] at hsc
      have hNr := hN.mono hpr
      have hpρ := hp.trans hpr
      have hWr := hW
      cases bt with
      | some bm =>
        obtain ⟨b, m⟩ := bm
        obtain ⟨hbi, y, hy, hm⟩ := hbt b m rfl
        rw [show bestI (some (b, m)) = (b : Int) from rfl] at t8
        rw [hsc]
        have e1 : (L.map cls).take b = (L.take b).map cls := List.map_take.symm
        have e2 : (L.map cls).drop (b + 1) = (L.drop (b + 1)).map cls := List.map_drop.symm
        have e3 : (L.map cls).getD b .other = cls y := by
          rw [List.getD_eq_getElem?_getD, List.getElem?_map, hy]
          rfl
        have hmp : 0 < m := by
          obtain ⟨_, _, _, hC, _, hm2, _⟩ := scan_some hsc
          have := hC.lvl
          omega
        have hbl : b < L.length := (List.getElem?_eq_some_iff.1 hy).1
        have hlt : (L.take b).length = b := by rw [List.length_take]; omega
        have hyv := hv y (List.mem_of_getElem? hy)
        obtain ⟨y3, yo, yk⟩ := lvl_ops hyv (by omega)
        simp only [go_sem, ↓reduceIte, Nat.reduceEqDiff, Nat.reduceAdd, Nat.reduceMul, Nat.reduceLT, Nat.reduceLeDiff, Int.reduceLT, Int.reduceLE, Int.reduceNeg, Int.reduceAdd, Int.reduceSub, Int.reduceMul, Int.reduceToNat, Int.reduceEq, Int.reduceNe, Int.cast_ofNat_Int, Int.natCast_one, Int.natCast_zero, Int.natCast_add, reduceCtorEq, t0, t1, t2, t8, t9, t10, show 0 ≤ (b : Int) by omega, show (b : Int) ≤ (L.length : Int) by omega, true_or, Int.sub_zero]
        rw [e1, e2, e3]
        have hW1 : Win σ0 n o (L.take b) := by simpa using hW.sub 0 b
        have hF1 : (L.take b).length < F := by omega
        have hb1 := less48 (show out.length + (L.take b).length + 410 ≤ out.length + L.length + 410 by omega) hbig
        refine (ih (σ0 := σ0) (σ := ρ) (n := n) (o := o) (la := b) (L := L.take b) d hW1 (fun x hx => hv x (List.mem_of_mem_take hx)) hpρ hNr hF1 hlt.symm hd hb1).mono ?_
        rintro v σ1 ⟨hp1, hA⟩
        cases hra : nd F d ((L.take b).map cls) with
        | none =>
          rw [hra] at hA
          subst hA
          simp only [go_sem, ↓reduceIte, Nat.reduceEqDiff, Nat.reduceAdd, Nat.reduceMul, Nat.reduceLT, Nat.reduceLeDiff, Int.reduceLT, Int.reduceLE, Int.reduceNeg, Int.reduceAdd, Int.reduceSub, Int.reduceMul, Int.reduceToNat, Int.reduceEq, Int.reduceNe, Int.cast_ofNat_Int, Int.natCast_one, Int.natCast_zero, Int.natCast_add, reduceCtorEq]
          first | exact ⟨hp1, trivial⟩ | exact hp1
        | some ta =>
          rw [hra] at hA
          obtain ⟨nv1, rfl, hN1⟩ := hA
          have hsa := nd_size hra
          have hpa := post_len ta out
          have hsl := (hW.mono hp1).slab (o' := o)
          have hwb : IntKind.i64.wrap ((b : Int) + 1) = (b : Int) + 1 := wrap64 (by omega)
          have hwl : IntKind.i64.wrap (((post ta out).length : Int) - 1) = ((post ta out).length : Int) - 1 := wrap64 (by omega)
          have hld : (L.drop (b + 1)).length = L.length - (b + 1) := List.length_drop
          simp only [go_sem, ↓reduceIte, Nat.reduceEqDiff, Nat.reduceAdd, Nat.reduceMul, Nat.reduceLT, Nat.reduceLeDiff, Int.reduceLT, Int.reduceLE, Int.reduceNeg, Int.reduceAdd, Int.reduceSub, Int.reduceMul, Int.reduceToNat, Int.reduceEq, Int.reduceNe, Int.cast_ofNat_Int, Int.natCast_one, Int.natCast_zero, Int.natCast_add, reduceCtorEq, t0, t1, t2, t8, t9, t10, nv_len hN1, hwb, hwl, hsl, show 0 ≤ (b : Int) + 1 by omega, show (b : Int) + 1 ≤ (L.length : Int) by omega, or_true, show ((b : Int) + 1).toNat = b + 1 by omega, show ((L.length : Int) - ((b : Int) + 1)).toNat = L.length - (b + 1) by omega]
          have hW2 : Win σ0 n (o + (b + 1) * 4) (L.drop (b + 1)) := by
            have := hW.sub (b + 1) L.length
            rwa [List.take_of_length_le (by omega)] at this
          have hF2 : (L.drop (b + 1)).length < F := by omega
          have hb2 := less48 (show (post ta out).length + (L.drop (b + 1)).length + 410 ≤ out.length + L.length + 410 by omega) hbig
          refine (ih (σ0 := σ0) (σ := σ1) (n := n) (o := o + (b + 1) * 4) (la := L.length - (b + 1)) (L := L.drop (b + 1)) d hW2 (fun x hx => hv x (List.mem_of_mem_drop hx)) hp1 hN1 hF2 hld.symm hd hb2).mono ?_
          rintro v σ2 ⟨hp2, hB⟩
          cases hrb : nd F d ((L.drop (b + 1)).map cls) with
          | none =>
            rw [hrb] at hB
            subst hB
            simp only [go_sem, ↓reduceIte, Nat.reduceEqDiff, Nat.reduceAdd, Nat.reduceMul, Nat.reduceLT, Nat.reduceLeDiff, Int.reduceLT, Int.reduceLE, Int.reduceNeg, Int.reduceAdd, Int.reduceSub, Int.reduceMul, Int.reduceToNat, Int.reduceEq, Int.reduceNe, Int.cast_ofNat_Int, Int.natCast_one, Int.natCast_zero, Int.natCast_add, reduceCtorEq]
            first | exact ⟨hp2, trivial⟩ | exact hp2
          | some tb =>
            rw [hrb] at hB
            obtain ⟨nv2, rfl, hN2⟩ := hB
            have hsb := nd_size hrb
            have hpb := post_len tb (post ta out)
            obtain ⟨cells2, ow2, sz2, u1, u2, u3⟩ := hW.mono hp2
            obtain ⟨u4, u5⟩ := u3 b y hy
            have c1 := win_cell u4 1 (by omega)
            have hio := idx_ops y.text
            have hwr : IntKind.i64.wrap (((post tb (post ta out)).length : Int) - 1) = ((post tb (post ta out)).length : Int) - 1 := wrap64 (by omega)
            simp only [go_sem, ↓reduceIte, Nat.reduceEqDiff, Nat.reduceAdd, Nat.reduceMul, Nat.reduceLT, Nat.reduceLeDiff, Int.reduceLT, Int.reduceLE, Int.reduceNeg, Int.reduceAdd, Int.reduceSub, Int.reduceMul, Int.reduceToNat, Int.reduceEq, Int.reduceNe, Int.cast_ofNat_Int, Int.natCast_one, Int.natCast_zero, Int.natCast_add, reduceCtorEq, t0, t1, t2, t8, t9, t10, u1, c1, Tk.cells, show (b : Int) < (L.length : Int) by omega]
            refine (f51_ok XL y.text _).mono ?_
            rintro _ _ ⟨rfl, τ, rfl⟩
            rw [if_pos yo]
            obtain ⟨nv3, σ3, ha, hp3, hN3⟩ := app_nd (hp2.trans (List.prefix_append σ2 τ)) (hN2.mono (List.prefix_append σ2 τ)) ⟨5 + idx ops y.text, 0, [], ((post ta out).length : Int) - 1, ((post tb (post ta out)).length : Int) - 1⟩ (less48 (show (post tb (post ta out)).length + 1 + 410 ≤ out.length + L.length + 410 by omega) hbig)
            simp only [Nd.cells, List.append_assoc, List.length_append] at ha
            simp only [go_sem, ↓reduceIte, Nat.reduceEqDiff, Nat.reduceAdd, Nat.reduceMul, Nat.reduceLT, Nat.reduceLeDiff, Int.reduceLT, Int.reduceLE, Int.reduceNeg, Int.reduceAdd, Int.reduceSub, Int.reduceMul, Int.reduceToNat, Int.reduceEq, Int.reduceNe, Int.cast_ofNat_Int, Int.natCast_one, Int.natCast_zero, Int.natCast_add, reduceCtorEq, t0, t1, t2, t8, t9, t10, nv_len hN2, hwr, ha]
            refine ⟨hp3, nv3, rfl, ?_⟩
            rw [yk]
            exact hN3
      | none =>
        rw [show bestI none = (-1 : Int) from rfl] at t8
        rw [hsc]
        have hpos : 0 < L.length := by omega
        obtain ⟨x, hx⟩ : ∃ x, L[0]? = some x := ⟨_, List.getElem?_eq_getElem hpos⟩
        have hxv := hv x (List.mem_of_getElem? hx)
        obtain ⟨w4, w5⟩ := w3 0 x hx
        rw [Nat.zero_mul, Nat.add_zero] at w4
        have c0 := win_cell w4 0 (by omega)
        have c1 := win_cell w4 1 (by omega)
        have c2 := win_cell w4 2 (by omega)
        rw [Nat.add_zero] at c0
        have hLm : L.map cls = cls x :: (L.drop 1).map cls := by
          have := drop_map hx
          rwa [List.drop_zero] at this
        have hl0 : (0 : Int) < (L.length : Int) := by omega
        have hsl := hWr.slab (o' := o)
        have hslr := (hW.mono hpρ).slab (o' := o)
        have hwd : IntKind.i64.wrap ((d : Int) + 1) = (d : Int) + 1 := wrap64 (by omega)
        have hW1 : Win σ0 n (o + 4) (L.drop 1) := by
          have := hW.sub 1 L.length
          rwa [List.take_of_length_le (by simp), Nat.one_mul] at this
        have hd1 : (L.drop 1).length = L.length - 1 := List.length_drop
        have hF1 : (L.drop 1).length < F := by omega
        have hb1 := less48 (show out.length + (L.drop 1).length + 410 ≤ out.length + L.length + 410 by omega) hbig
        rw [hLm]
        by_cases k3 : x.kind = 3
        · by_cases q1 : x.text = [45]
          · rw [cls_minus k3 q1]
            simp only [go_sem, ↓reduceIte, Nat.reduceEqDiff, Nat.reduceAdd, Nat.reduceMul, Nat.reduceLT, Nat.reduceLeDiff, Int.reduceLT, Int.reduceLE, Int.reduceNeg, Int.reduceAdd, Int.reduceSub, Int.reduceMul, Int.reduceToNat, Int.reduceEq, Int.reduceNe, Int.cast_ofNat_Int, Int.natCast_one, Int.natCast_zero, Int.natCast_add, reduceCtorEq, t0, t1, t2, t8, t9, t10, hl0, w1, c0, c1, Tk.cells, k3, q1, hslr, hwd, show (1 : Int) ≤ (L.length : Int) by omega, show ((L.length : Int) - 1).toNat = L.length - 1 by omega, Cl.un]
            refine (ih (σ0 := σ0) (σ := ρ) (n := n) (o := o + 4) (la := L.length - 1) (L := L.drop 1) (d + 1) hW1 (fun x hx => hv x (List.mem_of_mem_drop hx)) hpρ hNr hF1 hd1.symm (by omega) hb1).mono ?_
            rintro v σ1 ⟨hp1, hA⟩
            cases hra : nd F (d + 1) ((L.drop 1).map cls) with
            | none =>
              rw [hra] at hA
              subst hA
              simp only [go_sem, ↓reduceIte, Nat.reduceEqDiff, Nat.reduceAdd, Nat.reduceMul, Nat.reduceLT, Nat.reduceLeDiff, Int.reduceLT, Int.reduceLE, Int.reduceNeg, Int.reduceAdd, Int.reduceSub, Int.reduceMul, Int.reduceToNat, Int.reduceEq, Int.reduceNe, Int.cast_ofNat_Int, Int.natCast_one, Int.natCast_zero, Int.natCast_add, reduceCtorEq]
              first | exact ⟨hp1, trivial⟩ | exact hp1
            | some ta =>
              rw [hra] at hA
              obtain ⟨nv1, rfl, hN1⟩ := hA
              have hsa := nd_size hra
              have hpa := post_len ta out
              have hwl : IntKind.i64.wrap (((post ta out).length : Int) - 1) = ((post ta out).length : Int) - 1 := wrap64 (by omega)
              obtain ⟨nv3, σ3, ha, hp3, hN3⟩ := app_nd hp1 hN1 ⟨3, 0, [], ((post ta out).length : Int) - 1, 0⟩ (less48 (show (post ta out).length + 1 + 410 ≤ out.length + L.length + 410 by omega) hbig)
              obtain ⟨cells2, ow2, sz2, u1, u2, u3⟩ := hW.mono hp1
              obtain ⟨u4, u5⟩ := u3 0 x hx
              rw [Nat.zero_mul, Nat.add_zero] at u4
              have e1 := win_cell u4 1 (by omega)
              simp only [Nd.cells] at ha
              simp only [go_sem, ↓reduceIte, Nat.reduceEqDiff, Nat.reduceAdd, Nat.reduceMul, Nat.reduceLT, Nat.reduceLeDiff, Int.reduceLT, Int.reduceLE, Int.reduceNeg, Int.reduceAdd, Int.reduceSub, Int.reduceMul, Int.reduceToNat, Int.reduceEq, Int.reduceNe, Int.cast_ofNat_Int, Int.natCast_one, Int.natCast_zero, Int.natCast_add, reduceCtorEq, t0, t1, t2, t8, t9, t10, hl0, u1, e1, Tk.cells, q1, nv_len hN1, hwl, ha]
              exact ⟨hp3, nv3, rfl, hN3⟩
          by_cases q2 : x.text = [126]
          · rw [cls_tilde k3 q2]
            simp only [go_sem, ↓reduceIte, Nat.reduceEqDiff, Nat.reduceAdd, Nat.reduceMul, Nat.reduceLT, Nat.reduceLeDiff, Int.reduceLT, Int.reduceLE, Int.reduceNeg, Int.reduceAdd, Int.reduceSub, Int.reduceMul, Int.reduceToNat, Int.reduceEq, Int.reduceNe, Int.cast_ofNat_Int, Int.natCast_one, Int.natCast_zero, Int.natCast_add, reduceCtorEq, t0, t1, t2, t8, t9, t10, hl0, w1, c0, c1, Tk.cells, k3, q2, hslr, hwd, show (1 : Int) ≤ (L.length : Int) by omega, show ((L.length : Int) - 1).toNat = L.length - 1 by omega, Cl.un]
            refine (ih (σ0 := σ0) (σ := ρ) (n := n) (o := o + 4) (la := L.length - 1) (L := L.drop 1) (d + 1) hW1 (fun x hx => hv x (List.mem_of_mem_drop hx)) hpρ hNr hF1 hd1.symm (by omega) hb1).mono ?_
            rintro v σ1 ⟨hp1, hA⟩
            cases hra : nd F (d + 1) ((L.drop 1).map cls) with
            | none =>
              rw [hra] at hA
              subst hA
              simp only [go_sem, ↓reduceIte, Nat.reduceEqDiff, Nat.reduceAdd, Nat.reduceMul, Nat.reduceLT, Nat.reduceLeDiff, Int.reduceLT, Int.reduceLE, Int.reduceNeg, Int.reduceAdd, Int.reduceSub, Int.reduceMul, Int.reduceToNat, Int.reduceEq, Int.reduceNe, Int.cast_ofNat_Int, Int.natCast_one, Int.natCast_zero, Int.natCast_add, reduceCtorEq]
              first | exact ⟨hp1, trivial⟩ | exact hp1
            | some ta =>
              rw [hra] at hA
              obtain ⟨nv1, rfl, hN1⟩ := hA
              have hsa := nd_size hra
              have hpa := post_len ta out
              have hwl : IntKind.i64.wrap (((post ta out).length : Int) - 1) = ((post ta out).length : Int) - 1 := wrap64 (by omega)
              obtain ⟨nv3, σ3, ha, hp3, hN3⟩ := app_nd hp1 hN1 ⟨4, 0, [], ((post ta out).length : Int) - 1, 0⟩ (less48 (show (post ta out).length + 1 + 410 ≤ out.length + L.length + 410 by omega) hbig)
              obtain ⟨cells2, ow2, sz2, u1, u2, u3⟩ := hW.mono hp1
              obtain ⟨u4, u5⟩ := u3 0 x hx
              rw [Nat.zero_mul, Nat.add_zero] at u4
              have e1 := win_cell u4 1 (by omega)
              simp only [Nd.cells] at ha
              simp only [go_sem, ↓reduceIte, Nat.reduceEqDiff, Nat.reduceAdd, Nat.reduceMul, Nat.reduceLT, Nat.reduceLeDiff, Int.reduceLT, Int.reduceLE, Int.reduceNeg, Int.reduceAdd, Int.reduceSub, Int.reduceMul, Int.reduceToNat, Int.reduceEq, Int.reduceNe, Int.cast_ofNat_Int, Int.natCast_one, Int.natCast_zero, Int.natCast_add, reduceCtorEq, t0, t1, t2, t8, t9, t10, hl0, u1, e1, Tk.cells, q2, nv_len hN1, hwl, ha]
              exact ⟨hp3, nv3, rfl, hN3⟩
          have hun : (cls x).un = none := by
            unfold cls
            rw [if_neg (by omega), if_neg (by omega), if_neg (show ¬ x.text = [126] from q2)]
            repeat' split
            all_goals first | rfl | skip
            simp only [Cl.un]
            rw [if_neg (by have := idx_minus q1; omega)]
          have hna : ∀ a, cls x ≠ .atom a := by
            intro a h
            unfold cls at h
            rw [if_neg (by omega), if_neg (by omega)] at h
            repeat' split at h
            all_goals simp at h
          obtain ⟨z, hz⟩ : ∃ z, L[L.length - 1]? = some z := ⟨_, List.getElem?_eq_getElem (by omega)⟩
          have hzv := hv z (List.mem_of_getElem? hz)
          obtain ⟨v4, v5⟩ := w3 (L.length - 1) z hz
          have e0 := win_cell v4 0 (by omega)
          have e1 := win_cell v4 1 (by omega)
          rw [Nat.add_zero] at e0
          have hrp := cls_rp hzv
          have hwl1 : IntKind.i64.wrap ((L.length : Int) - 1) = ((L.length - 1 : Nat) : Int) := by rw [wrap64 (by omega)]; omega
          have hl1 : ((L.length - 1 : Nat) : Int) < (L.length : Int) := by omega
          have hlast : 2 ≤ L.length → ((L.drop 1).map cls).getLast? = some (cls z) := by
            intro h
            rw [List.getLast?_eq_getElem?, List.length_map, hd1, List.getElem?_map, List.getElem?_drop, show 1 + (L.length - 1 - 1) = L.length - 1 by omega, hz]
            rfl
          have hlm : ((L.drop 1).map cls).length = L.length - 1 := by rw [List.length_map, hd1]
          simp only [hun]
          by_cases q3 : x.text = [40]
          · by_cases hz2 : (z.kind = 3 ∧ z.text = [41]) ∧ 2 < L.length
            · obtain ⟨⟨z1, z2⟩, z3⟩ := hz2
              have hcz : cls z = .rp := hrp.1 (by rw [sgn, if_pos z1]; exact z2)
              rw [if_pos ⟨by rw [cls_lp k3 q3]; rfl, by rw [hlast (by omega), hcz]; rfl, by rw [hlm]; omega⟩]
              have hdl : ((L.drop 1).map cls).dropLast = ((L.drop 1).take (L.length - 2)).map cls := by
                rw [List.dropLast_eq_take, hlm, ← List.map_take]
                congr 1
              have hW3 : Win σ0 n (o + 4) ((L.drop 1).take (L.length - 2)) := by
                have := hW.sub 1 (L.length - 2)
                rwa [Nat.one_mul] at this
              have hl3 : ((L.drop 1).take (L.length - 2)).length = L.length - 2 := by rw [List.length_take, hd1]; omega
              have hF3 : ((L.drop 1).take (L.length - 2)).length < F := by omega
              have hb3 := less48 (show out.length + ((L.drop 1).take (L.length - 2)).length + 410 ≤ out.length + L.length + 410 by omega) hbig
              rw [hdl]
              simp only [go_sem, ↓reduceIte, Nat.reduceEqDiff, Nat.reduceAdd, Nat.reduceMul, Nat.reduceLT, Nat.reduceLeDiff, Int.reduceLT, Int.reduceLE, Int.reduceNeg, Int.reduceAdd, Int.reduceSub, Int.reduceMul, Int.reduceToNat, Int.reduceEq, Int.reduceNe, Int.cast_ofNat_Int, Int.natCast_one, Int.natCast_zero, Int.natCast_add, reduceCtorEq, t0, t1, t2, t8, t9, t10, hl0, hl1, hwl1, w1, c0, c1, e0, e1, Tk.cells, k3, eq_false q1, eq_false q2, eq_true q3, z1, eq_true z2, hslr, hwd, show (2 : Int) < (L.length : Int) by omega, show (1 : Int) ≤ ((L.length - 1 : Nat) : Int) by omega, show ((L.length - 1 : Nat) : Int) ≤ (L.length : Int) by omega, show (((L.length - 1 : Nat) : Int) - 1).toNat = L.length - 2 by omega]
              refine (ih (σ0 := σ0) (σ := ρ) (n := n) (o := o + 4) (la := L.length - 2) (L := (L.drop 1).take (L.length - 2)) (d + 1) hW3 (fun x hx => hv x (List.mem_of_mem_drop (List.mem_of_mem_take hx))) hpρ hNr hF3 hl3.symm (by omega) hb3).mono ?_
              rintro v σ1 ⟨hp1, hA⟩
              cases hra : nd F (d + 1) (((L.drop 1).take (L.length - 2)).map cls) with
              | none =>
                rw [hra] at hA
                subst hA
                simp only [go_sem, ↓reduceIte, Nat.reduceEqDiff, Nat.reduceAdd, Nat.reduceMul, Nat.reduceLT, Nat.reduceLeDiff, Int.reduceLT, Int.reduceLE, Int.reduceNeg, Int.reduceAdd, Int.reduceSub, Int.reduceMul, Int.reduceToNat, Int.reduceEq, Int.reduceNe, Int.cast_ofNat_Int, Int.natCast_one, Int.natCast_zero, Int.natCast_add, reduceCtorEq]
                first | exact ⟨hp1, trivial⟩ | exact hp1
              | some ta =>
                rw [hra] at hA
                obtain ⟨nv1, rfl, hN1⟩ := hA
                simp only [go_sem, ↓reduceIte, Nat.reduceEqDiff, Nat.reduceAdd, Nat.reduceMul, Nat.reduceLT, Nat.reduceLeDiff, Int.reduceLT, Int.reduceLE, Int.reduceNeg, Int.reduceAdd, Int.reduceSub, Int.reduceMul, Int.reduceToNat, Int.reduceEq, Int.reduceNe, Int.cast_ofNat_Int, Int.natCast_one, Int.natCast_zero, Int.natCast_add, reduceCtorEq]
                exact ⟨hp1, nv1, rfl, hN1⟩
            · rw [if_neg (by
                rintro ⟨-, h2, h3⟩
                rw [hlm] at h3
                apply hz2
                refine ⟨?_, by omega⟩
                rw [hlast (by omega)] at h2
                have hcr : cls z = .rp := by
                  cases hcz : cls z <;> rw [hcz] at h2 <;> first | rfl | (simp [Cl.isR] at h2)
                have hs := hrp.2 hcr
                by_cases z1 : z.kind = 3
                · rw [sgn, if_pos z1] at hs
                  exact ⟨z1, hs⟩
                · rw [sgn, if_neg z1] at hs
                  simp at hs), cls_lp k3 q3]
              by_cases z1 : z.kind = 3
              · by_cases z2 : z.text = [41]
                · have z3 : ¬ (2 : Int) < (L.length : Int) := fun h => hz2 ⟨⟨z1, z2⟩, by omega⟩
                  by_cases hone : (L.length : Int) = 1
                  · simp only [go_sem, ↓reduceIte, Nat.reduceEqDiff, Nat.reduceAdd, Nat.reduceMul, Nat.reduceLT, Nat.reduceLeDiff, Int.reduceLT, Int.reduceLE, Int.reduceNeg, Int.reduceAdd, Int.reduceSub, Int.reduceMul, Int.reduceToNat, Int.reduceEq, Int.reduceNe, Int.cast_ofNat_Int, Int.natCast_one, Int.natCast_zero, Int.natCast_add, reduceCtorEq, t0, t1, t2, t8, t9, t10, hl0, hl1, hwl1, w1, c0, c1, e0, e1, Tk.cells, k3, eq_false q1, eq_false q2, eq_true q3, z1, eq_true z2, z3, eq_true hone]
                    first | exact ⟨hpρ, trivial⟩ | exact hpρ
                  · simp only [go_sem, ↓reduceIte, Nat.reduceEqDiff, Nat.reduceAdd, Nat.reduceMul, Nat.reduceLT, Nat.reduceLeDiff, Int.reduceLT, Int.reduceLE, Int.reduceNeg, Int.reduceAdd, Int.reduceSub, Int.reduceMul, Int.reduceToNat, Int.reduceEq, Int.reduceNe, Int.cast_ofNat_Int, Int.natCast_one, Int.natCast_zero, Int.natCast_add, reduceCtorEq, t0, t1, t2, t8, t9, t10, hl0, hl1, hwl1, w1, c0, c1, e0, e1, Tk.cells, k3, eq_false q1, eq_false q2, eq_true q3, z1, eq_true z2, z3, eq_false hone]
                    first | exact ⟨hpρ, trivial⟩ | exact hpρ
                · by_cases hone : (L.length : Int) = 1
                  · simp only [go_sem, ↓reduceIte, Nat.reduceEqDiff, Nat.reduceAdd, Nat.reduceMul, Nat.reduceLT, Nat.reduceLeDiff, Int.reduceLT, Int.reduceLE, Int.reduceNeg, Int.reduceAdd, Int.reduceSub, Int.reduceMul, Int.reduceToNat, Int.reduceEq, Int.reduceNe, Int.cast_ofNat_Int, Int.natCast_one, Int.natCast_zero, Int.natCast_add, reduceCtorEq, t0, t1, t2, t8, t9, t10, hl0, hl1, hwl1, w1, c0, c1, e0, e1, Tk.cells, k3, eq_false q1, eq_false q2, eq_true q3, z1, eq_false z2, eq_true hone]
                    first | exact ⟨hpρ, trivial⟩ | exact hpρ
                  · simp only [go_sem, ↓reduceIte, Nat.reduceEqDiff, Nat.reduceAdd, Nat.reduceMul, Nat.reduceLT, Nat.reduceLeDiff, Int.reduceLT, Int.reduceLE, Int.reduceNeg, Int.reduceAdd, Int.reduceSub, Int.reduceMul, Int.reduceToNat, Int.reduceEq, Int.reduceNe, Int.cast_ofNat_Int, Int.natCast_one, Int.natCast_zero, Int.natCast_add, reduceCtorEq, t0, t1, t2, t8, t9, t10, hl0, hl1, hwl1, w1, c0, c1, e0, e1, Tk.cells, k3, eq_false q1, eq_false q2, eq_true q3, z1, eq_false z2, eq_false hone]
                    first | exact ⟨hpρ, trivial⟩ | exact hpρ
              · by_cases hone : (L.length : Int) = 1
                · simp only [go_sem, ↓reduceIte, Nat.reduceEqDiff, Nat.reduceAdd, Nat.reduceMul, Nat.reduceLT, Nat.reduceLeDiff, Int.reduceLT, Int.reduceLE, Int.reduceNeg, Int.reduceAdd, Int.reduceSub, Int.reduceMul, Int.reduceToNat, Int.reduceEq, Int.reduceNe, Int.cast_ofNat_Int, Int.natCast_one, Int.natCast_zero, Int.natCast_add, reduceCtorEq, t0, t1, t2, t8, t9, t10, hl0, hl1, hwl1, w1, c0, c1, e0, e1, Tk.cells, k3, eq_false q1, eq_false q2, eq_true q3, z1, eq_true hone]
                  first | exact ⟨hpρ, trivial⟩ | exact hpρ
                · simp only [go_sem, ↓reduceIte, Nat.reduceEqDiff, Nat.reduceAdd, Nat.reduceMul, Nat.reduceLT, Nat.reduceLeDiff, Int.reduceLT, Int.reduceLE, Int.reduceNeg, Int.reduceAdd, Int.reduceSub, Int.reduceMul, Int.reduceToNat, Int.reduceEq, Int.reduceNe, Int.cast_ofNat_Int, Int.natCast_one, Int.natCast_zero, Int.natCast_add, reduceCtorEq, t0, t1, t2, t8, t9, t10, hl0, hl1, hwl1, w1, c0, c1, e0, e1, Tk.cells, k3, eq_false q1, eq_false q2, eq_true q3, z1, eq_false hone]
                  first | exact ⟨hpρ, trivial⟩ | exact hpρ
          · rw [if_neg (by
              rintro ⟨h, -⟩
              have : cls x = .lp := by
                cases hcx : cls x <;> rw [hcx] at h <;> first | rfl | (simp [Cl.isL] at h)
              unfold cls at this
              rw [if_neg (by omega), if_neg (by omega), if_neg q3] at this
              repeat' split at this
              all_goals simp at this)]
            cases hcx : cls x with
            | atom a => exact absurd hcx (hna a)
            | lp => 
              by_cases hone : (L.length : Int) = 1
              · simp only [go_sem, ↓reduceIte, Nat.reduceEqDiff, Nat.reduceAdd, Nat.reduceMul, Nat.reduceLT, Nat.reduceLeDiff, Int.reduceLT, Int.reduceLE, Int.reduceNeg, Int.reduceAdd, Int.reduceSub, Int.reduceMul, Int.reduceToNat, Int.reduceEq, Int.reduceNe, Int.cast_ofNat_Int, Int.natCast_one, Int.natCast_zero, Int.natCast_add, reduceCtorEq, t0, t1, t2, t8, t9, t10, hl0, hl1, hwl1, w1, c0, c1, e0, e1, Tk.cells, k3, eq_false q1, eq_false q2, eq_false q3, eq_true hone]
                first | exact ⟨hpρ, trivial⟩ | exact hpρ
              · simp only [go_sem, ↓reduceIte, Nat.reduceEqDiff, Nat.reduceAdd, Nat.reduceMul, Nat.reduceLT, Nat.reduceLeDiff, Int.reduceLT, Int.reduceLE, Int.reduceNeg, Int.reduceAdd, Int.reduceSub, Int.reduceMul, Int.reduceToNat, Int.reduceEq, Int.reduceNe, Int.cast_ofNat_Int, Int.natCast_one, Int.natCast_zero, Int.natCast_add, reduceCtorEq, t0, t1, t2, t8, t9, t10, hl0, hl1, hwl1, w1, c0, c1, e0, e1, Tk.cells, k3, eq_false q1, eq_false q2, eq_false q3, eq_false hone]
                first | exact ⟨hpρ, trivial⟩ | exact hpρ
            | rp => 
              by_cases hone : (L.length : Int) = 1
              · simp only [go_sem, ↓reduceIte, Nat.reduceEqDiff, Nat.reduceAdd, Nat.reduceMul, Nat.reduceLT, Nat.reduceLeDiff, Int.reduceLT, Int.reduceLE, Int.reduceNeg, Int.reduceAdd, Int.reduceSub, Int.reduceMul, Int.reduceToNat, Int.reduceEq, Int.reduceNe, Int.cast_ofNat_Int, Int.natCast_one, Int.natCast_zero, Int.natCast_add, reduceCtorEq, t0, t1, t2, t8, t9, t10, hl0, hl1, hwl1, w1, c0, c1, e0, e1, Tk.cells, k3, eq_false q1, eq_false q2, eq_false q3, eq_true hone]
                first | exact ⟨hpρ, trivial⟩ | exact hpρ
              · simp only [go_sem, ↓reduceIte, Nat.reduceEqDiff, Nat.reduceAdd, Nat.reduceMul, Nat.reduceLT, Nat.reduceLeDiff, Int.reduceLT, Int.reduceLE, Int.reduceNeg, Int.reduceAdd, Int.reduceSub, Int.reduceMul, Int.reduceToNat, Int.reduceEq, Int.reduceNe, Int.cast_ofNat_Int, Int.natCast_one, Int.natCast_zero, Int.natCast_add, reduceCtorEq, t0, t1, t2, t8, t9, t10, hl0, hl1, hwl1, w1, c0, c1, e0, e1, Tk.cells, k3, eq_false q1, eq_false q2, eq_false q3, eq_false hone]
                first | exact ⟨hpρ, trivial⟩ | exact hpρ
            | tilde => 
              by_cases hone : (L.length : Int) = 1
              · simp only [go_sem, ↓reduceIte, Nat.reduceEqDiff, Nat.reduceAdd, Nat.reduceMul, Nat.reduceLT, Nat.reduceLeDiff, Int.reduceLT, Int.reduceLE, Int.reduceNeg, Int.reduceAdd, Int.reduceSub, Int.reduceMul, Int.reduceToNat, Int.reduceEq, Int.reduceNe, Int.cast_ofNat_Int, Int.natCast_one, Int.natCast_zero, Int.natCast_add, reduceCtorEq, t0, t1, t2, t8, t9, t10, hl0, hl1, hwl1, w1, c0, c1, e0, e1, Tk.cells, k3, eq_false q1, eq_false q2, eq_false q3, eq_true hone]
                first | exact ⟨hpρ, trivial⟩ | exact hpρ
              · simp only [go_sem, ↓reduceIte, Nat.reduceEqDiff, Nat.reduceAdd, Nat.reduceMul, Nat.reduceLT, Nat.reduceLeDiff, Int.reduceLT, Int.reduceLE, Int.reduceNeg, Int.reduceAdd, Int.reduceSub, Int.reduceMul, Int.reduceToNat, Int.reduceEq, Int.reduceNe, Int.cast_ofNat_Int, Int.natCast_one, Int.natCast_zero, Int.natCast_add, reduceCtorEq, t0, t1, t2, t8, t9, t10, hl0, hl1, hwl1, w1, c0, c1, e0, e1, Tk.cells, k3, eq_false q1, eq_false q2, eq_false q3, eq_false hone]
                first | exact ⟨hpρ, trivial⟩ | exact hpρ
            | other => 
              by_cases hone : (L.length : Int) = 1
              · simp only [go_sem, ↓reduceIte, Nat.reduceEqDiff, Nat.reduceAdd, Nat.reduceMul, Nat.reduceLT, Nat.reduceLeDiff, Int.reduceLT, Int.reduceLE, Int.reduceNeg, Int.reduceAdd, Int.reduceSub, Int.reduceMul, Int.reduceToNat, Int.reduceEq, Int.reduceNe, Int.cast_ofNat_Int, Int.natCast_one, Int.natCast_zero, Int.natCast_add, reduceCtorEq, t0, t1, t2, t8, t9, t10, hl0, hl1, hwl1, w1, c0, c1, e0, e1, Tk.cells, k3, eq_false q1, eq_false q2, eq_false q3, eq_true hone]
                first | exact ⟨hpρ, trivial⟩ | exact hpρ
              · simp only [go_sem, ↓reduceIte, Nat.reduceEqDiff, Nat.reduceAdd, Nat.reduceMul, Nat.reduceLT, Nat.reduceLeDiff, Int.reduceLT, Int.reduceLE, Int.reduceNeg, Int.reduceAdd, Int.reduceSub, Int.reduceMul, Int.reduceToNat, Int.reduceEq, Int.reduceNe, Int.cast_ofNat_Int, Int.natCast_one, Int.natCast_zero, Int.natCast_add, reduceCtorEq, t0, t1, t2, t8, t9, t10, hl0, hl1, hwl1, w1, c0, c1, e0, e1, Tk.cells, k3, eq_false q1, eq_false q2, eq_false q3, eq_false hone]
                first | exact ⟨hpρ, trivial⟩ | exact hpρ
            | bin lv kd => 
              by_cases hone : (L.length : Int) = 1
              · simp only [go_sem, ↓reduceIte, Nat.reduceEqDiff, Nat.reduceAdd, Nat.reduceMul, Nat.reduceLT, Nat.reduceLeDiff, Int.reduceLT, Int.reduceLE, Int.reduceNeg, Int.reduceAdd, Int.reduceSub, Int.reduceMul, Int.reduceToNat, Int.reduceEq, Int.reduceNe, Int.cast_ofNat_Int, Int.natCast_one, Int.natCast_zero, Int.natCast_add, reduceCtorEq, t0, t1, t2, t8, t9, t10, hl0, hl1, hwl1, w1, c0, c1, e0, e1, Tk.cells, k3, eq_false q1, eq_false q2, eq_false q3, eq_true hone]
                first | exact ⟨hpρ, trivial⟩ | exact hpρ
              · simp only [go_sem, ↓reduceIte, Nat.reduceEqDiff, Nat.reduceAdd, Nat.reduceMul, Nat.reduceLT, Nat.reduceLeDiff, Int.reduceLT, Int.reduceLE, Int.reduceNeg, Int.reduceAdd, Int.reduceSub, Int.reduceMul, Int.reduceToNat, Int.reduceEq, Int.reduceNe, Int.cast_ofNat_Int, Int.natCast_one, Int.natCast_zero, Int.natCast_add, reduceCtorEq, t0, t1, t2, t8, t9, t10, hl0, hl1, hwl1, w1, c0, c1, e0, e1, Tk.cells, k3, eq_false q1, eq_false q2, eq_false q3, eq_false hone]
                first | exact ⟨hpρ, trivial⟩ | exact hpρ
        · have hat : ∃ a, cls x = .atom a := by
            unfold cls
            rcases valid_kind hxv with h | h | h
            · rw [if_neg (by omega), if_pos h]; exact ⟨_, rfl⟩
            · rw [if_pos h]; exact ⟨_, rfl⟩
            · exact absurd h.1 k3
          obtain ⟨a, hat⟩ := hat
          rw [hat]
          simp only [Cl.un]
          rw [if_neg (show ¬ ((Cl.atom a : Cl Nd).isL = true ∧ _) from fun h => by simp [Cl.isL] at h)]
          by_cases hone : L.length = 1
          · have hnil : (L.drop 1).map cls = [] := by rw [List.drop_eq_nil_of_le (by omega)]; rfl
            rw [hnil]
            have hone' : (L.length : Int) = 1 := by omega
            by_cases k2 : x.kind = 2
            · have ha2 : a = ⟨1, x.value, [], 0, 0⟩ := by
                rw [cls, if_pos k2] at hat
                exact (Cl.atom.inj hat).symm
              obtain ⟨nv3, σ3, ha, hp3, hN3⟩ := app_nd hpρ hNr ⟨1, x.value, [], 0, 0⟩ (less48 (show out.length + 1 + 410 ≤ out.length + L.length + 410 by omega) hbig)
              simp only [Nd.cells] at ha
              simp only [go_sem, ↓reduceIte, Nat.reduceEqDiff, Nat.reduceAdd, Nat.reduceMul, Nat.reduceLT, Nat.reduceLeDiff, Int.reduceLT, Int.reduceLE, Int.reduceNeg, Int.reduceAdd, Int.reduceSub, Int.reduceMul, Int.reduceToNat, Int.reduceEq, Int.reduceNe, Int.cast_ofNat_Int, Int.natCast_one, Int.natCast_zero, Int.natCast_add, reduceCtorEq, t0, t1, t2, t8, t9, t10, hl0, w1, c0, c1, c2, Tk.cells, k3, k2, eq_true hone', ha]
              rw [ha2]
              exact ⟨hp3, nv3, rfl, hN3⟩
            · have k1 : x.kind = 1 := by
                rcases valid_kind hxv with h | h | h
                · exact h
                · exact absurd h k2
                · exact absurd h.1 k3
              have ha2 : a = ⟨2, 0, x.text, 0, 0⟩ := by
                rw [cls, if_neg k2, if_pos k1] at hat
                exact (Cl.atom.inj hat).symm
              obtain ⟨nv3, σ3, ha, hp3, hN3⟩ := app_nd hpρ hNr ⟨2, 0, x.text, 0, 0⟩ (less48 (show out.length + 1 + 410 ≤ out.length + L.length + 410 by omega) hbig)
              simp only [Nd.cells] at ha
              simp only [go_sem, ↓reduceIte, Nat.reduceEqDiff, Nat.reduceAdd, Nat.reduceMul, Nat.reduceLT, Nat.reduceLeDiff, Int.reduceLT, Int.reduceLE, Int.reduceNeg, Int.reduceAdd, Int.reduceSub, Int.reduceMul, Int.reduceToNat, Int.reduceEq, Int.reduceNe, Int.cast_ofNat_Int, Int.natCast_one, Int.natCast_zero, Int.natCast_add, reduceCtorEq, t0, t1, t2, t8, t9, t10, hl0, w1, c0, c1, c2, Tk.cells, k3, k2, k1, eq_true hone', ha]
              rw [ha2]
              exact ⟨hp3, nv3, rfl, hN3⟩
          · have hone' : ¬ (L.length : Int) = 1 := by omega
            obtain ⟨y, hy⟩ : ∃ y, L[1]? = some y := ⟨_, List.getElem?_eq_getElem (by omega)⟩
            rw [drop_map hy]
            simp only [go_sem, ↓reduceIte, Nat.reduceEqDiff, Nat.reduceAdd, Nat.reduceMul, Nat.reduceLT, Nat.reduceLeDiff, Int.reduceLT, Int.reduceLE, Int.reduceNeg, Int.reduceAdd, Int.reduceSub, Int.reduceMul, Int.reduceToNat, Int.reduceEq, Int.reduceNe, Int.cast_ofNat_Int, Int.natCast_one, Int.natCast_zero, Int.natCast_add, reduceCtorEq, t0, t1, t2, t8, t9, t10, hl0, w1, c0, c1, Tk.cells, k3, eq_false hone']
            first | exact ⟨hpρ, trivial⟩ | exact hpρ
  · clear t0 t1 t2 t8 t9 t10
    rintro T0 _ ⟨rfl, t0, t1, t2, t8, t9, t10, hiL⟩
    have hi : (i : Int) < (L.length : Int) := by omega
    obtain ⟨x, hx⟩ : ∃ x, L[i]? = some x := ⟨_, List.getElem?_eq_getElem (by omega)⟩
    have hxv := hv x (List.mem_of_getElem? hx)
    obtain ⟨w4, w5⟩ := w3 i x hx
    have c0 := win_cell w4 0 (by omega)
    have c1 := win_cell w4 1 (by omega)
    rw [Nat.add_zero] at c0
    rw [v_seq, v_block]
    refine vc_cut (fun T' ρ' => ρ = ρ' ∧ T' 0 = .slice (some ⟨n, o, none⟩) L.length c ∧ T' 1 = nv ∧ T' 2 = .int .i64 d ∧ T' 8 = .int .i64 (bestI bt) ∧ T' 9 = .int .i64 (op + if x.kind = 3 ∧ x.text = [40] then 1 else 0) ∧ T' 10 = .int .i64 i) ?_ ?_
    · by_cases k3 : x.kind = 3
      · by_cases q1 : x.text = [40]
        · simp only [go_sem, ↓reduceIte, Nat.reduceEqDiff, Nat.reduceAdd, Nat.reduceMul, Nat.reduceLT, Nat.reduceLeDiff, Int.reduceLT, Int.reduceLE, Int.reduceNeg, Int.reduceAdd, Int.reduceSub, Int.reduceMul, Int.reduceToNat, Int.reduceEq, Int.reduceNe, Int.cast_ofNat_Int, Int.natCast_one, Int.natCast_zero, Int.natCast_add, reduceCtorEq, t0, t1, t2, t8, t9, t10, hi, w1, c0, c1, Tk.cells, k3, eq_true q1, wrap64 (show -9223372036854775808 ≤ op + 1 ∧ op + 1 ≤ 9223372036854775807 by omega)]
        · simp only [go_sem, ↓reduceIte, Nat.reduceEqDiff, Nat.reduceAdd, Nat.reduceMul, Nat.reduceLT, Nat.reduceLeDiff, Int.reduceLT, Int.reduceLE, Int.reduceNeg, Int.reduceAdd, Int.reduceSub, Int.reduceMul, Int.reduceToNat, Int.reduceEq, Int.reduceNe, Int.cast_ofNat_Int, Int.natCast_one, Int.natCast_zero, Int.natCast_add, reduceCtorEq, t0, t1, t2, t8, t9, t10, hi, w1, c0, c1, Tk.cells, k3, eq_false q1, Int.add_zero]
      · simp only [go_sem, ↓reduceIte, Nat.reduceEqDiff, Nat.reduceAdd, Nat.reduceMul, Nat.reduceLT, Nat.reduceLeDiff, Int.reduceLT, Int.reduceLE, Int.reduceNeg, Int.reduceAdd, Int.reduceSub, Int.reduceMul, Int.reduceToNat, Int.reduceEq, Int.reduceNe, Int.cast_ofNat_Int, Int.natCast_one, Int.natCast_zero, Int.natCast_add, reduceCtorEq, t0, t1, t2, t8, t9, t10, hi, w1, c0, c1, Tk.cells, k3, Int.add_zero]
    rintro T1 _ ⟨rfl, t0, t1, t2, t8, t9, t10⟩
    refine vc_cut (fun T' ρ' => ρ = ρ' ∧ T' 0 = .slice (some ⟨n, o, none⟩) L.length c ∧ T' 1 = nv ∧ T' 2 = .int .i64 d ∧ T' 8 = .int .i64 (bestI bt) ∧ T' 9 = .int .i64 (op + (cls x).par) ∧ T' 10 = .int .i64 i) ?_ ?_
    · rw [cls_par x hxv]
      by_cases k3 : x.kind = 3
      · by_cases q1 : x.text = [41]
        · have q2 : ¬ x.text = [40] := by rw [q1]; decide
          simp only [go_sem, ↓reduceIte, Nat.reduceEqDiff, Nat.reduceAdd, Nat.reduceMul, Nat.reduceLT, Nat.reduceLeDiff, Int.reduceLT, Int.reduceLE, Int.reduceNeg, Int.reduceAdd, Int.reduceSub, Int.reduceMul, Int.reduceToNat, Int.reduceEq, Int.reduceNe, Int.cast_ofNat_Int, Int.natCast_one, Int.natCast_zero, Int.natCast_add, reduceCtorEq, t0, t1, t2, t8, t9, t10, hi, w1, c0, c1, Tk.cells, k3, eq_true q1, eq_false q2, Int.add_zero, wrap64 (show -9223372036854775808 ≤ op - 1 ∧ op - 1 ≤ 9223372036854775807 by omega)]
          rfl
        · simp only [go_sem, ↓reduceIte, Nat.reduceEqDiff, Nat.reduceAdd, Nat.reduceMul, Nat.reduceLT, Nat.reduceLeDiff, Int.reduceLT, Int.reduceLE, Int.reduceNeg, Int.reduceAdd, Int.reduceSub, Int.reduceMul, Int.reduceToNat, Int.reduceEq, Int.reduceNe, Int.cast_ofNat_Int, Int.natCast_one, Int.natCast_zero, Int.natCast_add, reduceCtorEq, t0, t1, t2, t8, t9, t10, hi, w1, c0, c1, Tk.cells, k3, eq_false q1, Int.add_zero]
      · simp only [go_sem, ↓reduceIte, Nat.reduceEqDiff, Nat.reduceAdd, Nat.reduceMul, Nat.reduceLT, Nat.reduceLeDiff, Int.reduceLT, Int.reduceLE, Int.reduceNeg, Int.reduceAdd, Int.reduceSub, Int.reduceMul, Int.reduceToNat, Int.reduceEq, Int.reduceNe, Int.cast_ofNat_Int, Int.natCast_one, Int.natCast_zero, Int.natCast_add, reduceCtorEq, t0, t1, t2, t8, t9, t10, hi, w1, c0, c1, Tk.cells, k3, Int.add_zero]
    rintro T2 _ ⟨rfl, t0, t1, t2, t8, t9, t10⟩
    refine vc_cut (fun T' ρ' => ρ = ρ' ∧ T' 0 = .slice (some ⟨n, o, none⟩) L.length c ∧ T' 1 = nv ∧ T' 2 = .int .i64 d ∧ T' 8 = .int .i64 (bestI bt) ∧ T' 9 = .int .i64 (op + (cls x).par) ∧ T' 10 = .int .i64 i ∧ T' 11 = .bool (eAt L i)) ?_ ?_
    · have hee : eAt L i = if i = 0 then false else (L[i - 1]?.map fun x => (cls x).ends).getD false := rfl
      by_cases hi0 : i = 0
      · rw [hee, if_pos hi0]
        simp only [go_sem, ↓reduceIte, Nat.reduceEqDiff, Nat.reduceAdd, Nat.reduceMul, Nat.reduceLT, Nat.reduceLeDiff, Int.reduceLT, Int.reduceLE, Int.reduceNeg, Int.reduceAdd, Int.reduceSub, Int.reduceMul, Int.reduceToNat, Int.reduceEq, Int.reduceNe, Int.cast_ofNat_Int, Int.natCast_one, Int.natCast_zero, Int.natCast_add, reduceCtorEq, t0, t1, t2, t8, t9, t10, show ¬ (0 : Int) < (i : Int) by omega]
      · obtain ⟨y, hy⟩ : ∃ y, L[i - 1]? = some y := ⟨_, List.getElem?_eq_getElem (by omega)⟩
        have hyv := hv y (List.mem_of_getElem? hy)
        obtain ⟨v4, v5⟩ := w3 (i - 1) y hy
        have e0 := win_cell v4 0 (by omega)
        have e1 := win_cell v4 1 (by omega)
        rw [Nat.add_zero] at e0
        have hw1 : IntKind.i64.wrap ((i : Int) - 1) = ((i - 1 : Nat) : Int) := by rw [wrap64 (by omega)]; omega
        have hlt1 : ((i - 1 : Nat) : Int) < (L.length : Int) := by omega
        have hee2 : eAt L i = if y.kind = 3 then decide (y.text = [41]) else true := by rw [hee, if_neg hi0, hy, ← cls_ends y hyv]; rfl
        rw [hee2]
        generalize i - 1 = i1 at *
        by_cases k3 : y.kind = 3
        · simp only [go_sem, ↓reduceIte, Nat.reduceEqDiff, Nat.reduceAdd, Nat.reduceMul, Nat.reduceLT, Nat.reduceLeDiff, Int.reduceLT, Int.reduceLE, Int.reduceNeg, Int.reduceAdd, Int.reduceSub, Int.reduceMul, Int.reduceToNat, Int.reduceEq, Int.reduceNe, Int.cast_ofNat_Int, Int.natCast_one, Int.natCast_zero, Int.natCast_add, reduceCtorEq, t0, t1, t2, t8, t9, t10, show (0 : Int) < (i : Int) by omega, hw1, hlt1, w1, e0, e1, Tk.cells, k3]
        · simp only [go_sem, ↓reduceIte, Nat.reduceEqDiff, Nat.reduceAdd, Nat.reduceMul, Nat.reduceLT, Nat.reduceLeDiff, Int.reduceLT, Int.reduceLE, Int.reduceNeg, Int.reduceAdd, Int.reduceSub, Int.reduceMul, Int.reduceToNat, Int.reduceEq, Int.reduceNe, Int.cast_ofNat_Int, Int.natCast_one, Int.natCast_zero, Int.natCast_add, reduceCtorEq, t0, t1, t2, t8, t9, t10, show (0 : Int) < (i : Int) by omega, hw1, hlt1, w1, e0, e1, Tk.cells, k3]
    rintro T3 _ ⟨rfl, t0, t1, t2, t8, t9, t10, t11⟩
    rw [drop_map hx] at hsc
    rw [scan] at hsc
    have hwi : IntKind.i64.wrap ((i : Int) + 1) = (i : Int) + 1 := wrap64 (by omega)
    have hpar1 : -1 ≤ (cls x).par ∧ (cls x).par ≤ 1 := by rw [cls_par x hxv]; repeat' split <;> omega
    have hlv := lvl_cls hxv
    have hes := eAt_succ hx
    have hbt2 : ∀ b m, bt = some (b, m) → b < i + 1 ∧ ∃ y, L[b]? = some y ∧ m = (cls y).lvl := fun b m h => ⟨by have := (hbt b m h).1; omega, (hbt b m h).2⟩
    by_cases ho : op + (cls x).par = 0
    · cases he : eAt L i with
      | false =>
        rw [he, if_neg (by simp)] at hsc
        simp only [go_sem, ↓reduceIte, Nat.reduceEqDiff, Nat.reduceAdd, Nat.reduceMul, Nat.reduceLT, Nat.reduceLeDiff, Int.reduceLT, Int.reduceLE, Int.reduceNeg, Int.reduceAdd, Int.reduceSub, Int.reduceMul, Int.reduceToNat, Int.reduceEq, Int.reduceNe, Int.cast_ofNat_Int, Int.natCast_one, Int.natCast_zero, Int.natCast_add, reduceCtorEq, t0, t1, t2, t8, t9, t10, t11, eq_true ho, he, hwi]
        refine ⟨k - 1, by omega, i + 1, bt, op + (cls x).par, by omega, hpr, ?_⟩
        rw [hes]
        (repeat' (first | exact rfl | apply And.intro))
        · exact hsc
        · omega
        · omega
        · exact hbt2
      | true =>
        rw [he] at hsc
        simp only [go_sem, ↓reduceIte, Nat.reduceEqDiff, Nat.reduceAdd, Nat.reduceMul, Nat.reduceLT, Nat.reduceLeDiff, Int.reduceLT, Int.reduceLE, Int.reduceNeg, Int.reduceAdd, Int.reduceSub, Int.reduceMul, Int.reduceToNat, Int.reduceEq, Int.reduceNe, Int.cast_ofNat_Int, Int.natCast_one, Int.natCast_zero, Int.natCast_add, reduceCtorEq, t0, t1, t2, t8, t9, t10, t11, eq_true ho, he, hi, w1, w4, w5]
        (repeat (refine And.intro ?_ ?_; focus (first | (refine quiet_pre ?_; simp [List.cons_prefix_cons]; done) | (refine quiet_look ?_; kernel_rfl))))
        refine (f50_ok XL x _).mono ?_
        rintro _ _ ⟨rfl, ⟨τ1, rfl⟩⟩
        rw [hlv]
        by_cases hl0 : 0 < (cls x).lvl
        · cases bt with
          | none =>
            rw [if_pos ⟨ho, rfl, hl0, rfl⟩] at hsc
            simp only [go_sem, ↓reduceIte, Nat.reduceEqDiff, Nat.reduceAdd, Nat.reduceMul, Nat.reduceLT, Nat.reduceLeDiff, Int.reduceLT, Int.reduceLE, Int.reduceNeg, Int.reduceAdd, Int.reduceSub, Int.reduceMul, Int.reduceToNat, Int.reduceEq, Int.reduceNe, Int.cast_ofNat_Int, Int.natCast_one, Int.natCast_zero, Int.natCast_add, reduceCtorEq, t0, t1, t2, t8, t9, t10, t11, eq_true ho, he, hi, show (0 : Int) < ((cls x).lvl : Int) by omega, bestI, show (-1 : Int) < 0 by omega, hwi]
            (repeat (refine And.intro ?_ ?_; focus (first | (refine quiet_pre ?_; simp [List.cons_prefix_cons]; done) | (refine quiet_look ?_; kernel_rfl))))
            refine ⟨k - 1, by omega, i + 1, some (i, (cls x).lvl), op + (cls x).par, by omega, hpr.trans (List.prefix_append _ _), ?_⟩
            rw [hes]
            (repeat' (first | exact rfl | apply And.intro))
            · exact hsc
            · omega
            · omega
            · intro b m h
              simp only [Option.some.injEq, Prod.mk.injEq] at h
              obtain ⟨rfl, rfl⟩ := h
              exact ⟨by omega, x, hx, rfl⟩
          | some bm =>
            obtain ⟨b, m⟩ := bm
            obtain ⟨hbi, y, hy, hm⟩ := hbt b m rfl
            have hyv := hv y (List.mem_of_getElem? hy)
            have hlvy := lvl_cls hyv
            obtain ⟨v4, v5⟩ := w3 b y hy
            have hn1 := look_lt w1
            rw [show bestI (some (b, m)) = (b : Int) from rfl] at t8
            simp only [go_sem, ↓reduceIte, Nat.reduceEqDiff, Nat.reduceAdd, Nat.reduceMul, Nat.reduceLT, Nat.reduceLeDiff, Int.reduceLT, Int.reduceLE, Int.reduceNeg, Int.reduceAdd, Int.reduceSub, Int.reduceMul, Int.reduceToNat, Int.reduceEq, Int.reduceNe, Int.cast_ofNat_Int, Int.natCast_one, Int.natCast_zero, Int.natCast_add, reduceCtorEq, t0, t1, t2, t8, t9, t10, t11, eq_true ho, he, hi, show (0 : Int) < ((cls x).lvl : Int) by omega, bestI, show ¬ (b : Int) < 0 by omega, look_app_lt hn1, w1, w4, w5]
            (repeat (refine And.intro ?_ ?_; focus (first | (refine quiet_pre ?_; simp [List.cons_prefix_cons]; done) | (refine quiet_look ?_; kernel_rfl))))
            refine (f50_ok XL x _).mono ?_
            rintro _ _ ⟨rfl, ⟨τ2, rfl⟩⟩
            rw [hlv]
            simp only [go_sem, ↓reduceIte, Nat.reduceEqDiff, Nat.reduceAdd, Nat.reduceMul, Nat.reduceLT, Nat.reduceLeDiff, Int.reduceLT, Int.reduceLE, Int.reduceNeg, Int.reduceAdd, Int.reduceSub, Int.reduceMul, Int.reduceToNat, Int.reduceEq, Int.reduceNe, Int.cast_ofNat_Int, Int.natCast_one, Int.natCast_zero, Int.natCast_add, reduceCtorEq, t0, t1, t2, t8, t9, t10, t11, eq_true ho, he, hi, show (0 : Int) < ((cls x).lvl : Int) by omega, show ¬ (b : Int) < 0 by omega, look_app_lt hn1, w1, v4, v5, show (b : Int) < (L.length : Int) by omega]
            (repeat (refine And.intro ?_ ?_; focus (first | (refine quiet_pre ?_; simp [List.cons_prefix_cons]; done) | (refine quiet_look ?_; kernel_rfl))))
            refine (f50_ok XL y _).mono ?_
            rintro _ _ ⟨rfl, ⟨τ3, rfl⟩⟩
            rw [hlvy, ← hm]
            have hpp : σ <+: ρ ++ (τ1 ++ (τ2 ++ τ3)) := hpr.trans (List.prefix_append _ _)
            by_cases hle : (cls x).lvl ≤ m
            · rw [if_pos ⟨ho, rfl, hl0, by simpa [better] using hle⟩] at hsc
              simp only [go_sem, ↓reduceIte, Nat.reduceEqDiff, Nat.reduceAdd, Nat.reduceMul, Nat.reduceLT, Nat.reduceLeDiff, Int.reduceLT, Int.reduceLE, Int.reduceNeg, Int.reduceAdd, Int.reduceSub, Int.reduceMul, Int.reduceToNat, Int.reduceEq, Int.reduceNe, Int.cast_ofNat_Int, Int.natCast_one, Int.natCast_zero, Int.natCast_add, reduceCtorEq, t0, t1, t2, t8, t9, t10, t11, eq_true ho, he, hi, show (0 : Int) < ((cls x).lvl : Int) by omega, show ¬ (b : Int) < 0 by omega, show ((cls x).lvl : Int) ≤ (m : Int) by omega, hwi]
              (repeat (refine And.intro ?_ ?_; focus (first | (refine quiet_pre ?_; simp [List.cons_prefix_cons]; done) | (refine quiet_look ?_; kernel_rfl))))
              refine ⟨k - 1, by omega, i + 1, some (i, (cls x).lvl), op + (cls x).par, by omega, hpp, ?_⟩
              rw [hes]
              (repeat' (first | exact rfl | apply And.intro))
              · exact hsc
              · omega
              · omega
              · intro b m h
                simp only [Option.some.injEq, Prod.mk.injEq] at h
                obtain ⟨rfl, rfl⟩ := h
                exact ⟨by omega, x, hx, rfl⟩
            · rw [if_neg (fun h => hle (by simpa [better] using h.2.2.2))] at hsc
              simp only [go_sem, ↓reduceIte, Nat.reduceEqDiff, Nat.reduceAdd, Nat.reduceMul, Nat.reduceLT, Nat.reduceLeDiff, Int.reduceLT, Int.reduceLE, Int.reduceNeg, Int.reduceAdd, Int.reduceSub, Int.reduceMul, Int.reduceToNat, Int.reduceEq, Int.reduceNe, Int.cast_ofNat_Int, Int.natCast_one, Int.natCast_zero, Int.natCast_add, reduceCtorEq, t0, t1, t2, t8, t9, t10, t11, eq_true ho, he, hi, show (0 : Int) < ((cls x).lvl : Int) by omega, show ¬ (b : Int) < 0 by omega, show ¬ ((cls x).lvl : Int) ≤ (m : Int) by omega, hwi]
              (repeat (refine And.intro ?_ ?_; focus (first | (refine quiet_pre ?_; simp [List.cons_prefix_cons]; done) | (refine quiet_look ?_; kernel_rfl))))
              refine ⟨k - 1, by omega, i + 1, some (b, m), op + (cls x).par, by omega, hpp, ?_⟩
              rw [hes]
              (repeat' (first | exact rfl | apply And.intro))
              · exact hsc
              · omega
              · omega
              · exact hbt2
        · rw [if_neg (fun h => hl0 h.2.2.1)] at hsc
          simp only [go_sem, ↓reduceIte, Nat.reduceEqDiff, Nat.reduceAdd, Nat.reduceMul, Nat.reduceLT, Nat.reduceLeDiff, Int.reduceLT, Int.reduceLE, Int.reduceNeg, Int.reduceAdd, Int.reduceSub, Int.reduceMul, Int.reduceToNat, Int.reduceEq, Int.reduceNe, Int.cast_ofNat_Int, Int.natCast_one, Int.natCast_zero, Int.natCast_add, reduceCtorEq, t0, t1, t2, t8, t9, t10, t11, eq_true ho, he, hi, show ¬ (0 : Int) < ((cls x).lvl : Int) by omega, hwi]
          (repeat (refine And.intro ?_ ?_; focus (first | (refine quiet_pre ?_; simp [List.cons_prefix_cons]; done) | (refine quiet_look ?_; kernel_rfl))))
          refine ⟨k - 1, by omega, i + 1, bt, op + (cls x).par, by omega, hpr.trans (List.prefix_append _ _), ?_⟩
          rw [hes]
          (repeat' (first | exact rfl | apply And.intro))
          · exact hsc
          · omega
          · omega
          · exact hbt2
    · rw [if_neg (fun h => ho h.1)] at hsc
      simp only [go_sem, ↓reduceIte, Nat.reduceEqDiff, Nat.reduceAdd, Nat.reduceMul, Nat.reduceLT, Nat.reduceLeDiff, Int.reduceLT, Int.reduceLE, Int.reduceNeg, Int.reduceAdd, Int.reduceSub, Int.reduceMul, Int.reduceToNat, Int.reduceEq, Int.reduceNe, Int.cast_ofNat_Int, Int.natCast_one, Int.natCast_zero, Int.natCast_add, reduceCtorEq, t0, t1, t2, t8, t9, t10, t11, eq_false ho, hwi]
      refine ⟨k - 1, by omega, i + 1, bt, op + (cls x).par, by omega, hpr, ?_⟩
      rw [hes]
      (repeat' (first | exact rfl | apply And.intro))
      · exact hsc
      · omega
      · omega
      · exact hbt2
theorem nodes_all (F : Nat) : NodesOk F := by
  induction F with
  | zero =>
    intro σ0 σ n o c la L d out nv hW hv hp hN h
    omega
  | succ F ih => exact nodes_step ih
/-- The reference's nodes. -/
def nodesOf (L : List Tk) : Option (Tr Nd) := nd (L.length + 1) 0 (L.map cls)
/-- **The reference and the program agree on what an expression is.** -/
theorem parse_nodes (L : List Tk) (t : Tr Nd) : parseOf L = some t ↔ nodesOf L = some t ∧ t.size ≤ 60 := by
  have := parse_nd (l := L.map cls) (fun c hc => by obtain ⟨x, _, rfl⟩ := List.mem_map.1 hc; exact cls_ok x) (F := fuelOf L) (G := L.length + 1) (by unfold mu fuelOf; simp) (by simp) t
  unfold nodesOf
  rw [← this]
  unfold parseOf
  constructor
  · intro h
    split at h
    · rename_i t' he
      rw [he, Option.some.inj h]
    · simp at h
  · intro h
    rw [h]
end Go.Proofs.YtkgdkommahgakaaDoor.Abs

namespace Go.Proofs.YtkgdkommahgakaaDoor.Abs
open Go Go.RowKit Gram
set_option linter.unusedVariables false
set_option linter.unusedSimpArgs false
set_option maxRecDepth 100000

def exT : List Tk := [⟨1, [97], 0, 0⟩, ⟨3, [43], 0, 0⟩, ⟨2, [], 1, 0⟩, ⟨3, [42], 0, 0⟩, ⟨2, [], 2, 0⟩]
def exN : List Nd := [⟨2, 0, [97], 0, 0⟩, ⟨1, 1, [], 0, 0⟩, ⟨1, 2, [], 0, 0⟩, ⟨7, 0, [], 1, 2⟩, ⟨5, 0, [], 0, 3⟩]
theorem exT_b : badTok exT = none := by decide +kernel
theorem exT_p : ∃ t, parseOf exT = some t ∧ t.size = 5 ∧ post t [] = exN := by
  have h : (parseOf exT).map (fun t => (t.size, post t [])) = some (5, exN) := by decide +kernel
  obtain ⟨t, h1, h2⟩ := Option.map_eq_some_iff.1 h
  simp only [Prod.mk.injEq] at h2
  exact ⟨t, h1, h2.1, h2.2⟩
theorem exN_v : valueOf exN [] = (⟨[97], [], 2⟩, (0, 0)) := by
  have h : (valueOf exN []).1.sym = [97] ∧ (valueOf exN []).1.minus = [] ∧ (valueOf exN []).1.num = 2 ∧ (valueOf exN []).2 = (0, 0) := by decide +kernel
  obtain ⟨h1, h2, h3, h4⟩ := h
  generalize valueOf exN [] = r at *
  obtain ⟨⟨a, b, c⟩, d⟩ := r
  simp only at h1 h2 h3 h4
  subst h1; subst h2; subst h3; subst h4
  rfl
theorem f45_ok (X : Ext) (σ : Heap) : CW Tryd.prog X 45 [] σ fun v σ' => v = .slice (some ⟨σ.length, 0, none⟩) 5 5 ∧ σ' = σ ++ [some ⟨exT.flatMap Tk.cells, true, 4⟩] := by
  refine cw_in Tryd.func45 rfl Tryd.ntmps45 (rs := [.tmp 0]) rfl (by kernel_rfl) (by exact Nat.le_of_ble_eq_true rfl) ?_
  simp only [go_sem, ↓reduceIte, Nat.reduceEqDiff, Nat.reduceAdd, Nat.reduceMul, Nat.reduceLT, Nat.reduceLeDiff, Int.reduceLT, Int.reduceLE, Int.reduceNeg, Int.reduceAdd, Int.reduceSub, Int.reduceMul, Int.reduceToNat, Int.reduceEq, Int.reduceNe, Int.cast_ofNat_Int, Int.natCast_one, Int.natCast_zero, Int.natCast_add, reduceCtorEq]
  rfl
set_option maxHeartbeats 1000000 in
theorem f17_ok (σ : Heap) (hG : GL σ) : CW Tryd.prog XL 17 [] σ fun v σ' => v = .bool true ∧ σ <+: σ' := by
  refine cw_in Tryd.func17 rfl Tryd.ntmps17 (rs := [.tmp 0]) rfl (by kernel_rfl) (by exact Nat.le_of_ble_eq_true rfl) ?_
  simp only [go_sem, ↓reduceIte, Nat.reduceEqDiff, Nat.reduceAdd, Nat.reduceMul, Nat.reduceLT, Nat.reduceLeDiff, Int.reduceLT, Int.reduceLE, Int.reduceNeg, Int.reduceAdd, Int.reduceSub, Int.reduceMul, Int.reduceToNat, Int.reduceEq, Int.reduceNe, Int.cast_ofNat_Int, Int.natCast_one, Int.natCast_zero, Int.natCast_add, reduceCtorEq]
  refine (f45_ok XL _).mono ?_
  rintro _ _ ⟨rfl, rfl⟩
  simp only [go_sem, ↓reduceIte, Nat.reduceEqDiff, Nat.reduceAdd, Nat.reduceMul, Nat.reduceLT, Nat.reduceLeDiff, Int.reduceLT, Int.reduceLE, Int.reduceNeg, Int.reduceAdd, Int.reduceSub, Int.reduceMul, Int.reduceToNat, Int.reduceEq, Int.reduceNe, Int.cast_ofNat_Int, Int.natCast_one, Int.natCast_zero, Int.natCast_add, reduceCtorEq]
  refine (f18_ok exT σ.length 5 true 4 _ (by rw [look_app_new, look_zero]) (hG.mono (List.prefix_append _ _)) (by decide) (by decide)).mono ?_
  rintro v ρ ⟨hv, hp⟩
  obtain ⟨t, h1, h2, h3⟩ := exT_p
  simp only [ParseV, exT_b, h1, h2, h3] at hv
  obtain ⟨q, c, rfl, hq1, hq2⟩ := hv
  have hp0 : σ <+: ρ := (List.prefix_append _ _).trans hp
  have hql := look_lt hq2
  simp only [go_sem, ↓reduceIte, Nat.reduceEqDiff, Nat.reduceAdd, Nat.reduceMul, Nat.reduceLT, Nat.reduceLeDiff, Int.reduceLT, Int.reduceLE, Int.reduceNeg, Int.reduceAdd, Int.reduceSub, Int.reduceMul, Int.reduceToNat, Int.reduceEq, Int.reduceNe, Int.cast_ofNat_Int, Int.natCast_one, Int.natCast_zero, Int.natCast_add, reduceCtorEq, faultV]
  refine (f24_ok XL exN [] q c (.slice none 0 0) true 5 _ ((look_app_lt hql).trans hq2) (.inl ⟨rfl, rfl⟩) (by decide) (by simp) (by decide) (by simp) 5 rfl).mono ?_
  rintro v ρ2 ⟨rfl, hp2⟩
  rw [exN_v]
  have hq3 : look ρ2 q = some ⟨exN.flatMap Nd.cells, true, 5⟩ := look_prefix hp2 ((look_app_lt hql).trans hq2)
  have hf : look ρ2 ρ.length = some ⟨[.int .i64 0, .int .i64 0], true, 0⟩ := look_prefix hp2 (by rw [look_app_new, look_zero])
  have hfl := look_lt hf
  have hql3 := look_lt hq3
  have hxc : exN.flatMap Nd.cells = [.int .i64 2, .int .i64 0, .string (str [97]), .int .i64 0, .int .i64 0, .int .i64 1, .int .i64 1, .string (str []), .int .i64 0, .int .i64 0, .int .i64 1, .int .i64 2, .string (str []), .int .i64 0, .int .i64 0, .int .i64 7, .int .i64 0, .string (str []), .int .i64 1, .int .i64 2, .int .i64 5, .int .i64 0, .string (str []), .int .i64 0, .int .i64 3] := rfl
  rw [hxc] at hq3
  simp only [go_sem, ↓reduceIte, Nat.reduceEqDiff, Nat.reduceAdd, Nat.reduceMul, Nat.reduceLT, Nat.reduceLeDiff, Int.reduceLT, Int.reduceLE, Int.reduceNeg, Int.reduceAdd, Int.reduceSub, Int.reduceMul, Int.reduceToNat, Int.reduceEq, Int.reduceNe, Int.cast_ofNat_Int, Int.natCast_one, Int.natCast_zero, Int.natCast_add, reduceCtorEq, faultV, Lin.cells, look_app_lt hfl, hf, look_app_lt hql3, hq3]
  exact hp0.trans (((List.prefix_append _ _).trans hp2).trans (List.prefix_append _ _))
end Go.Proofs.YtkgdkommahgakaaDoor.Abs

namespace Go.Proofs.YtkgdkommahgakaaDoor.Abs
open Go Go.RowKit Gram
set_option linter.unusedVariables false
set_option linter.unusedSimpArgs false
set_option maxRecDepth 100000

/-- Nodes: none, or a block of them. -/
def NB (σ : Heap) (L : List Nd) (v : Value) : Prop := (L = [] ∧ v = .slice none 0 0) ∨ ∃ n c ow sz, v = .slice (some ⟨n, 0, none⟩) L.length c ∧ look σ n = some ⟨L.flatMap Nd.cells, ow, sz⟩
theorem NB.mono {σ σ' : Heap} {L : List Nd} {v : Value} (h : NB σ L v) (hp : σ <+: σ') : NB σ' L v := by
  rcases h with h | ⟨n, c, ow, sz, h1, h2⟩
  · exact .inl h
  · exact .inr ⟨n, c, ow, sz, h1, look_prefix hp h2⟩
theorem NV.nb {b : Nat} {σ : Heap} {L : List Nd} {v : Value} (h : NV b σ L v) : NB σ L v := by
  rcases h with h | ⟨n, c, h1, _, _, h2⟩
  · exact .inl h
  · exact .inr ⟨n, c, _, _, h1, h2⟩
theorem Nd.ext_iff' (x y : Nd) : (x.kind = y.kind ∧ x.value = y.value ∧ x.name = y.name ∧ x.left = y.left ∧ x.right = y.right) ↔ x = y := by
  obtain ⟨a0, a1, a2, a3, a4⟩ := x
  obtain ⟨b0, b1, b2, b3, b4⟩ := y
  simp
set_option maxHeartbeats 1000000 in
theorem f23_ok (X : Ext) (A B : List Nd) (va vb : Value) (σ : Heap) (hA : NB σ A va) (hB : NB σ B vb) (h1 : A.length ≤ 140737488351232) (h2 : B.length ≤ 140737488351232) : CW Tryd.prog X 23 [va, vb] σ fun v σ' => v = .bool (decide (A = B)) ∧ σ <+: σ' := by
  refine cw_in Tryd.func23 rfl Tryd.ntmps23 (rs := [.tmp 4]) rfl (by kernel_rfl) (by exact Nat.le_of_ble_eq_true rfl) ?_
  rcases hA with ⟨rfl, rfl⟩ | ⟨n, c, ow, sz, rfl, hA⟩ <;> rcases hB with ⟨rfl, rfl⟩ | ⟨m, d, ow2, sz2, rfl, hB⟩
  · simp only [go_sem, ↓reduceIte, Nat.reduceEqDiff, Nat.reduceAdd, Nat.reduceMul, Nat.reduceLT, Nat.reduceLeDiff, Int.reduceLT, Int.reduceLE, Int.reduceNeg, Int.reduceAdd, Int.reduceSub, Int.reduceMul, Int.reduceToNat, Int.reduceEq, Int.reduceNe, Int.cast_ofNat_Int, Int.natCast_one, Int.natCast_zero, Int.natCast_add, reduceCtorEq]
    refine LW_unroll ?_
    simp only [go_sem, ↓reduceIte, Nat.reduceEqDiff, Nat.reduceAdd, Nat.reduceMul, Nat.reduceLT, Nat.reduceLeDiff, Int.reduceLT, Int.reduceLE, Int.reduceNeg, Int.reduceAdd, Int.reduceSub, Int.reduceMul, Int.reduceToNat, Int.reduceEq, Int.reduceNe, Int.cast_ofNat_Int, Int.natCast_one, Int.natCast_zero, Int.natCast_add, reduceCtorEq]
    exact List.prefix_rfl
  · cases B with
    | nil =>
      simp only [go_sem, ↓reduceIte, Nat.reduceEqDiff, Nat.reduceAdd, Nat.reduceMul, Nat.reduceLT, Nat.reduceLeDiff, Int.reduceLT, Int.reduceLE, Int.reduceNeg, Int.reduceAdd, Int.reduceSub, Int.reduceMul, Int.reduceToNat, Int.reduceEq, Int.reduceNe, Int.cast_ofNat_Int, Int.natCast_one, Int.natCast_zero, Int.natCast_add, reduceCtorEq, List.length_nil, Int.natCast_zero]
      refine LW_unroll ?_
      simp only [go_sem, ↓reduceIte, Nat.reduceEqDiff, Nat.reduceAdd, Nat.reduceMul, Nat.reduceLT, Nat.reduceLeDiff, Int.reduceLT, Int.reduceLE, Int.reduceNeg, Int.reduceAdd, Int.reduceSub, Int.reduceMul, Int.reduceToNat, Int.reduceEq, Int.reduceNe, Int.cast_ofNat_Int, Int.natCast_one, Int.natCast_zero, Int.natCast_add, reduceCtorEq]
      exact List.prefix_rfl
    | cons y B =>
      simp only [go_sem, ↓reduceIte, Nat.reduceEqDiff, Nat.reduceAdd, Nat.reduceMul, Nat.reduceLT, Nat.reduceLeDiff, Int.reduceLT, Int.reduceLE, Int.reduceNeg, Int.reduceAdd, Int.reduceSub, Int.reduceMul, Int.reduceToNat, Int.reduceEq, Int.reduceNe, Int.cast_ofNat_Int, Int.natCast_one, Int.natCast_zero, Int.natCast_add, reduceCtorEq, eq_false (show ¬ (0 : Int) = (B.length : Int) + 1 by omega)]
      first | exact List.prefix_rfl | exact ⟨by simp, List.prefix_rfl⟩
  · cases A with
    | nil =>
      simp only [go_sem, ↓reduceIte, Nat.reduceEqDiff, Nat.reduceAdd, Nat.reduceMul, Nat.reduceLT, Nat.reduceLeDiff, Int.reduceLT, Int.reduceLE, Int.reduceNeg, Int.reduceAdd, Int.reduceSub, Int.reduceMul, Int.reduceToNat, Int.reduceEq, Int.reduceNe, Int.cast_ofNat_Int, Int.natCast_one, Int.natCast_zero, Int.natCast_add, reduceCtorEq, List.length_nil, Int.natCast_zero]
      refine LW_unroll ?_
      simp only [go_sem, ↓reduceIte, Nat.reduceEqDiff, Nat.reduceAdd, Nat.reduceMul, Nat.reduceLT, Nat.reduceLeDiff, Int.reduceLT, Int.reduceLE, Int.reduceNeg, Int.reduceAdd, Int.reduceSub, Int.reduceMul, Int.reduceToNat, Int.reduceEq, Int.reduceNe, Int.cast_ofNat_Int, Int.natCast_one, Int.natCast_zero, Int.natCast_add, reduceCtorEq]
      exact List.prefix_rfl
    | cons y A =>
      simp only [go_sem, ↓reduceIte, Nat.reduceEqDiff, Nat.reduceAdd, Nat.reduceMul, Nat.reduceLT, Nat.reduceLeDiff, Int.reduceLT, Int.reduceLE, Int.reduceNeg, Int.reduceAdd, Int.reduceSub, Int.reduceMul, Int.reduceToNat, Int.reduceEq, Int.reduceNe, Int.cast_ofNat_Int, Int.natCast_one, Int.natCast_zero, Int.natCast_add, reduceCtorEq, eq_false (show ¬ (A.length : Int) + 1 = 0 by omega)]
      first | exact List.prefix_rfl | exact ⟨by simp, List.prefix_rfl⟩
  · by_cases hle : A.length = B.length
    · have hn := look_lt hA
      have hm := look_lt hB
      have hal := Nd.len A
      have hbl := Nd.len B
      simp only [go_sem, ↓reduceIte, Nat.reduceEqDiff, Nat.reduceAdd, Nat.reduceMul, Nat.reduceLT, Nat.reduceLeDiff, Int.reduceLT, Int.reduceLE, Int.reduceNeg, Int.reduceAdd, Int.reduceSub, Int.reduceMul, Int.reduceToNat, Int.reduceEq, Int.reduceNe, Int.cast_ofNat_Int, Int.natCast_one, Int.natCast_zero, Int.natCast_add, reduceCtorEq, eq_true (show (A.length : Int) = (B.length : Int) by omega)]
      refine LW_run (fun k T ρ => ∃ i : Nat, i + k = A.length ∧ ρ = σ ∧ T 0 = .slice (some ⟨n, 0, none⟩) A.length c ∧ T 1 = .slice (some ⟨m, 0, none⟩) B.length d ∧ T 5 = .int .i64 i ∧ A.take i = B.take i) A.length ⟨0, by simp, rfl, rfl, rfl, rfl, by simp⟩ ?_
      rintro k T _ ⟨i, hk, rfl, t0, t1, t5, hv⟩
      simp only [go_sem, ↓reduceIte, Nat.reduceEqDiff, Nat.reduceAdd, Nat.reduceMul, Nat.reduceLT, Nat.reduceLeDiff, Int.reduceLT, Int.reduceLE, Int.reduceNeg, Int.reduceAdd, Int.reduceSub, Int.reduceMul, Int.reduceToNat, Int.reduceEq, Int.reduceNe, Int.cast_ofNat_Int, Int.natCast_one, Int.natCast_zero, Int.natCast_add, reduceCtorEq, t0, t1, t5]
      refine fork_dec (fun _ => ?_) (fun _ => ?_)
      · rename_i hi
        obtain ⟨x, hx⟩ : ∃ x, A[i]? = some x := ⟨_, List.getElem?_eq_getElem (by omega)⟩
        obtain ⟨y, hy⟩ : ∃ y, B[i]? = some y := ⟨_, List.getElem?_eq_getElem (by omega)⟩
        have hw : IntKind.i64.wrap ((i : Int) + 1) = (i : Int) + 1 := wrap64 (by omega)
        have e1 : A.take (i + 1) = A.take i ++ [x] := by rw [List.take_add_one, hx]; rfl
        have e2 : B.take (i + 1) = B.take i ++ [y] := by rw [List.take_add_one, hy]; rfl
        simp only [go_sem, ↓reduceIte, Nat.reduceEqDiff, Nat.reduceAdd, Nat.reduceMul, Nat.reduceLT, Nat.reduceLeDiff, Int.reduceLT, Int.reduceLE, Int.reduceNeg, Int.reduceAdd, Int.reduceSub, Int.reduceMul, Int.reduceToNat, Int.reduceEq, Int.reduceNe, Int.cast_ofNat_Int, Int.natCast_one, Int.natCast_zero, Int.natCast_add, reduceCtorEq, t0, t1, t5, hi, hA, hB, Nd.take hx, Nd.take hy, hal, hbl, Nd.cells, show i * 5 + 5 ≤ A.length * 5 by omega, show i * 5 + 5 ≤ B.length * 5 by omega, show (i : Int) < (B.length : Int) by omega]
        by_cases he : x = y
        · simp only [go_sem, ↓reduceIte, Nat.reduceEqDiff, Nat.reduceAdd, Nat.reduceMul, Nat.reduceLT, Nat.reduceLeDiff, Int.reduceLT, Int.reduceLE, Int.reduceNeg, Int.reduceAdd, Int.reduceSub, Int.reduceMul, Int.reduceToNat, Int.reduceEq, Int.reduceNe, Int.cast_ofNat_Int, Int.natCast_one, Int.natCast_zero, Int.natCast_add, reduceCtorEq, eq_true ((Nd.ext_iff' x y).2 he), t0, t1, t5, hw]
          refine ⟨k - 1, by omega, i + 1, ?_⟩
          (repeat' (first | exact rfl | apply And.intro))
          all_goals first | omega | (rw [e1, e2, hv, he])
        · simp only [go_sem, ↓reduceIte, Nat.reduceEqDiff, Nat.reduceAdd, Nat.reduceMul, Nat.reduceLT, Nat.reduceLeDiff, Int.reduceLT, Int.reduceLE, Int.reduceNeg, Int.reduceAdd, Int.reduceSub, Int.reduceMul, Int.reduceToNat, Int.reduceEq, Int.reduceNe, Int.cast_ofNat_Int, Int.natCast_one, Int.natCast_zero, Int.natCast_add, reduceCtorEq, eq_false (fun h => he ((Nd.ext_iff' x y).1 h)), t0, t1, t5]
          refine ⟨?_, List.prefix_rfl⟩
          rw [decide_eq_false (fun h => he (by rw [h] at hx; rw [hx] at hy; exact Option.some.inj hy))]
      · rename_i hi
        simp only [go_sem, ↓reduceIte, Nat.reduceEqDiff, Nat.reduceAdd, Nat.reduceMul, Nat.reduceLT, Nat.reduceLeDiff, Int.reduceLT, Int.reduceLE, Int.reduceNeg, Int.reduceAdd, Int.reduceSub, Int.reduceMul, Int.reduceToNat, Int.reduceEq, Int.reduceNe, Int.cast_ofNat_Int, Int.natCast_one, Int.natCast_zero, Int.natCast_add, reduceCtorEq]
        refine ⟨?_, List.prefix_rfl⟩
        rw [List.take_of_length_le (by omega), List.take_of_length_le (by omega)] at hv
        simp [hv]
    · simp only [go_sem, ↓reduceIte, Nat.reduceEqDiff, Nat.reduceAdd, Nat.reduceMul, Nat.reduceLT, Nat.reduceLeDiff, Int.reduceLT, Int.reduceLE, Int.reduceNeg, Int.reduceAdd, Int.reduceSub, Int.reduceMul, Int.reduceToNat, Int.reduceEq, Int.reduceNe, Int.cast_ofNat_Int, Int.natCast_one, Int.natCast_zero, Int.natCast_add, reduceCtorEq, eq_false (show ¬ (A.length : Int) = (B.length : Int) by omega)]
      refine ⟨?_, List.prefix_rfl⟩
      rw [decide_eq_false (fun h => hle (by rw [h]))]
end Go.Proofs.YtkgdkommahgakaaDoor.Abs
