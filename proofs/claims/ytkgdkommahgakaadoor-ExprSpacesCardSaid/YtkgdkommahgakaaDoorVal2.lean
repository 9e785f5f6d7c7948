import Derived.Test.YtkgdkommahgakaaDoorVals
import Derived.Test.YtkgdkommahgakaaDoorCut
namespace Go.Proofs.YtkgdkommahgakaaDoor.Abs
open Go Go.RowKit Gram
set_option linter.unusedVariables false
set_option linter.unusedSimpArgs false
set_option maxRecDepth 100000

attribute [go_sem] List.drop_succ_cons
/-! ### symbols -/
structure Sy where
  name : List UInt8
  lin : Lin
def Sy.cells (x : Sy) : List Value := [.string (str x.name), .string (str x.lin.sym), .string (str x.lin.minus), .int .i64 x.lin.num]
theorem Sy.len (L : List Sy) : (L.flatMap Sy.cells).length = L.length * 4 := by
  induction L with
  | nil => rfl
  | cons x L ih => simp only [List.flatMap_cons, List.length_append, ih, List.length_cons, Sy.cells, List.length_nil]; omega
theorem Sy.take {x : Sy} {L : List Sy} {i : Nat} (h : L[i]? = some x) : ((L.flatMap Sy.cells).drop (i * 4)).take 4 = x.cells := chunk_at Sy.cells 4 (fun _ => rfl) x L i h
theorem f78_ok (X : Ext) (s : List UInt8) (hs : s.length ≤ 140737488351232) (σ : Heap) : CW Tryd.prog X 78 [.string (str s)] σ fun v σ' => v = .bool (decide (s = []) || nameOk s) ∧ σ' = σ := by
  refine cw_in Tryd.func78 rfl Tryd.ntmps78 (rs := [.tmp 2]) rfl (by kernel_rfl) (by exact Nat.le_of_ble_eq_true rfl) ?_
  by_cases h : s = []
  · simp only [go_sem, ↓reduceIte, Nat.reduceEqDiff, Nat.reduceAdd, Nat.reduceMul, Nat.reduceLT, Nat.reduceLeDiff, Int.reduceLT, Int.reduceLE, Int.reduceNeg, Int.reduceAdd, Int.reduceSub, Int.reduceMul, Int.reduceToNat, Int.reduceEq, Int.reduceNe, Int.cast_ofNat_Int, Int.natCast_one, Int.natCast_zero, Int.natCast_add, reduceCtorEq, eq_true h]
  · simp only [go_sem, ↓reduceIte, Nat.reduceEqDiff, Nat.reduceAdd, Nat.reduceMul, Nat.reduceLT, Nat.reduceLeDiff, Int.reduceLT, Int.reduceLE, Int.reduceNeg, Int.reduceAdd, Int.reduceSub, Int.reduceMul, Int.reduceToNat, Int.reduceEq, Int.reduceNe, Int.cast_ofNat_Int, Int.natCast_one, Int.natCast_zero, Int.natCast_add, reduceCtorEq, eq_false h]
    refine (f55_ok X s hs _).mono ?_
    rintro _ _ ⟨rfl, rfl⟩
    simp only [go_sem, ↓reduceIte, Nat.reduceEqDiff, Nat.reduceAdd, Nat.reduceMul, Nat.reduceLT, Nat.reduceLeDiff, Int.reduceLT, Int.reduceLE, Int.reduceNeg, Int.reduceAdd, Int.reduceSub, Int.reduceMul, Int.reduceToNat, Int.reduceEq, Int.reduceNe, Int.cast_ofNat_Int, Int.natCast_one, Int.natCast_zero, Int.natCast_add, reduceCtorEq, eq_false h]
theorem f80_ok (X : Ext) (x : Sy) (nd : Nd) (q : Nat) (ow : Bool) (sz : Nat) (σ : Heap) (hq : look σ q = some ⟨nd.cells, ow, sz⟩) : CW Tryd.prog X 80 [.agg x.cells.toArray, .pointer (some ⟨q, 0, none⟩)] σ fun v σ' => v = .bool (decide (x.name = nd.name)) ∧ σ <+: σ' := by
  refine cw_in Tryd.func80 rfl Tryd.ntmps80 (rs := [.tmp 3]) rfl (by kernel_rfl) (by exact Nat.le_of_ble_eq_true rfl) ?_
  have hql := look_lt hq
  simp only [go_sem, ↓reduceIte, Nat.reduceEqDiff, Nat.reduceAdd, Nat.reduceMul, Nat.reduceLT, Nat.reduceLeDiff, Int.reduceLT, Int.reduceLE, Int.reduceNeg, Int.reduceAdd, Int.reduceSub, Int.reduceMul, Int.reduceToNat, Int.reduceEq, Int.reduceNe, Int.cast_ofNat_Int, Int.natCast_one, Int.natCast_zero, Int.natCast_add, reduceCtorEq, Sy.cells, look_app_lt hql, hq, Nd.cells]
  exact List.prefix_append _ _
set_option maxHeartbeats 1000000 in
theorem f79_ok (X : Ext) (S : List Sy) (nd : Nd) (n c q : Nat) (ow oq : Bool) (sz sq : Nat) (σ : Heap) (hl : look σ n = some ⟨S.flatMap Sy.cells, ow, sz⟩) (hq : look σ q = some ⟨nd.cells, oq, sq⟩) (hS : S.length ≤ 1000000) :
    CW Tryd.prog X 79 [.slice (some ⟨n, 0, none⟩) S.length c, .func (.func 80) #[] #[.pointer (some ⟨q, 0, none⟩)]] σ fun v σ' => v = .int .i64 (idx (S.map (·.name)) nd.name) ∧ σ <+: σ' := by
  refine cw_in Tryd.func79 rfl Tryd.ntmps79 (rs := [.tmp 4]) rfl (by kernel_rfl) (by exact Nat.le_of_ble_eq_true rfl) ?_
  have hsl := Sy.len S
  simp only [go_sem, ↓reduceIte, Nat.reduceEqDiff, Nat.reduceAdd, Nat.reduceMul, Nat.reduceLT, Nat.reduceLeDiff, Int.reduceLT, Int.reduceLE, Int.reduceNeg, Int.reduceAdd, Int.reduceSub, Int.reduceMul, Int.reduceToNat, Int.reduceEq, Int.reduceNe, Int.cast_ofNat_Int, Int.natCast_one, Int.natCast_zero, Int.natCast_add, reduceCtorEq]
  refine LW_run (fun k T ρ => ∃ i : Nat, i + k = S.length ∧ σ <+: ρ ∧ T 0 = .slice (some ⟨n, 0, none⟩) S.length c ∧ T 1 = .func (.func 80) #[] #[.pointer (some ⟨q, 0, none⟩)] ∧ T 7 = .int .i64 S.length ∧ T 8 = .int .i64 i ∧ nd.name ∉ (S.map (·.name)).take i) S.length ⟨0, by simp, List.prefix_rfl, rfl, rfl, rfl, rfl, by simp⟩ ?_
  rintro k T ρ ⟨i, hk, hp, t0, t1, t7, t8, hv⟩
  have hl' := look_prefix hp hl
  have hq' := look_prefix hp hq
  simp only [go_sem, ↓reduceIte, Nat.reduceEqDiff, Nat.reduceAdd, Nat.reduceMul, Nat.reduceLT, Nat.reduceLeDiff, Int.reduceLT, Int.reduceLE, Int.reduceNeg, Int.reduceAdd, Int.reduceSub, Int.reduceMul, Int.reduceToNat, Int.reduceEq, Int.reduceNe, Int.cast_ofNat_Int, Int.natCast_one, Int.natCast_zero, Int.natCast_add, reduceCtorEq, t0, t1, t7, t8]
  refine fork_dec (fun _ => ?_) (fun _ => ?_)
  · rename_i hi
    have hw : IntKind.i64.wrap ((i : Int) + 1) = (i : Int) + 1 := wrap64 (by omega)
    obtain ⟨x, hx⟩ : ∃ x, S[i]? = some x := ⟨_, List.getElem?_eq_getElem (by omega)⟩
    have hx2 : (S.map (·.name))[i]? = some x.name := by rw [List.getElem?_map, hx]; rfl
    simp only [go_sem, ↓reduceIte, Nat.reduceEqDiff, Nat.reduceAdd, Nat.reduceMul, Nat.reduceLT, Nat.reduceLeDiff, Int.reduceLT, Int.reduceLE, Int.reduceNeg, Int.reduceAdd, Int.reduceSub, Int.reduceMul, Int.reduceToNat, Int.reduceEq, Int.reduceNe, Int.cast_ofNat_Int, Int.natCast_one, Int.natCast_zero, Int.natCast_add, reduceCtorEq, t0, t1, t7, t8, hi, hl', Sy.take hx, hsl, show i * 4 + 4 ≤ S.length * 4 by omega, Sy.cells]
    refine (f80_ok X x nd q oq sq _ hq').mono ?_
    rintro _ ρ1 ⟨rfl, hp1⟩
    by_cases he : x.name = nd.name
    · simp only [go_sem, ↓reduceIte, Nat.reduceEqDiff, Nat.reduceAdd, Nat.reduceMul, Nat.reduceLT, Nat.reduceLeDiff, Int.reduceLT, Int.reduceLE, Int.reduceNeg, Int.reduceAdd, Int.reduceSub, Int.reduceMul, Int.reduceToNat, Int.reduceEq, Int.reduceNe, Int.cast_ofNat_Int, Int.natCast_one, Int.natCast_zero, Int.natCast_add, reduceCtorEq, t0, t1, t7, t8, eq_true he]
      refine ⟨?_, hp.trans hp1⟩
      rw [idx_hit _ nd.name i (by rw [hx2, he]) hv]
    · simp only [go_sem, ↓reduceIte, Nat.reduceEqDiff, Nat.reduceAdd, Nat.reduceMul, Nat.reduceLT, Nat.reduceLeDiff, Int.reduceLT, Int.reduceLE, Int.reduceNeg, Int.reduceAdd, Int.reduceSub, Int.reduceMul, Int.reduceToNat, Int.reduceEq, Int.reduceNe, Int.cast_ofNat_Int, Int.natCast_one, Int.natCast_zero, Int.natCast_add, reduceCtorEq, t0, t1, t7, t8, eq_false he, hw]
      refine ⟨k - 1, by omega, i + 1, by omega, hp.trans hp1, ?_⟩
      (repeat' (first | exact rfl | apply And.intro))
      exact not_take hx2 hv he
  · rename_i hi
    simp only [go_sem, ↓reduceIte, Nat.reduceEqDiff, Nat.reduceAdd, Nat.reduceMul, Nat.reduceLT, Nat.reduceLeDiff, Int.reduceLT, Int.reduceLE, Int.reduceNeg, Int.reduceAdd, Int.reduceSub, Int.reduceMul, Int.reduceToNat, Int.reduceEq, Int.reduceNe, Int.cast_ofNat_Int, Int.natCast_one, Int.natCast_zero, Int.natCast_add, reduceCtorEq, t0, hi]
    rw [List.take_of_length_le (by simp; omega)] at hv
    refine ⟨?_, hp⟩
    rw [idx_miss _ _ hv]
theorem f79_nil (X : Ext) (f : Value) (σ : Heap) : CW Tryd.prog X 79 [.slice none 0 0, f] σ fun v σ' => v = .int .i64 (-1) ∧ σ <+: σ' := by
  refine cw_in Tryd.func79 rfl Tryd.ntmps79 (rs := [.tmp 4]) rfl (by kernel_rfl) (by exact Nat.le_of_ble_eq_true rfl) ?_
  simp only [go_sem, ↓reduceIte, Nat.reduceEqDiff, Nat.reduceAdd, Nat.reduceMul, Nat.reduceLT, Nat.reduceLeDiff, Int.reduceLT, Int.reduceLE, Int.reduceNeg, Int.reduceAdd, Int.reduceSub, Int.reduceMul, Int.reduceToNat, Int.reduceEq, Int.reduceNe, Int.cast_ofNat_Int, Int.natCast_one, Int.natCast_zero, Int.natCast_add, reduceCtorEq]
  refine LW_unroll ?_
  simp only [go_sem, ↓reduceIte, Nat.reduceEqDiff, Nat.reduceAdd, Nat.reduceMul, Nat.reduceLT, Nat.reduceLeDiff, Int.reduceLT, Int.reduceLE, Int.reduceNeg, Int.reduceAdd, Int.reduceSub, Int.reduceMul, Int.reduceToNat, Int.reduceEq, Int.reduceNe, Int.cast_ofNat_Int, Int.natCast_one, Int.natCast_zero, Int.natCast_add, reduceCtorEq]
  first | exact List.prefix_rfl | exact ⟨rfl, List.prefix_rfl⟩
/-- The symbols: none, or a block of them. -/
def SB (σ : Heap) (S : List Sy) (v : Value) : Prop := (S = [] ∧ v = .slice none 0 0) ∨ ∃ n c ow sz, v = .slice (some ⟨n, 0, none⟩) S.length c ∧ look σ n = some ⟨S.flatMap Sy.cells, ow, sz⟩
theorem SB.mono {σ σ' : Heap} {S : List Sy} {v : Value} (h : SB σ S v) (hp : σ <+: σ') : SB σ' S v := by
  rcases h with h | ⟨n, c, ow, sz, h1, h2⟩
  · exact .inl h
  · exact .inr ⟨n, c, ow, sz, h1, look_prefix hp h2⟩
theorem f79_all (X : Ext) (S : List Sy) (nd : Nd) (sv : Value) (q : Nat) (oq : Bool) (sq : Nat) (σ : Heap) (hl : SB σ S sv) (hq : look σ q = some ⟨nd.cells, oq, sq⟩) (hS : S.length ≤ 1000000) :
    CW Tryd.prog X 79 [sv, .func (.func 80) #[] #[.pointer (some ⟨q, 0, none⟩)]] σ fun v σ' => v = .int .i64 (idx (S.map (·.name)) nd.name) ∧ σ <+: σ' := by
  rcases hl with ⟨rfl, rfl⟩ | ⟨n, c, ow, sz, rfl, hl⟩
  · exact (f79_nil X _ σ).mono fun v σ' h => ⟨h.1, h.2⟩
  · exact f79_ok X S nd n c q ow oq sz sq σ hl hq hS
def symErr (x : Sy) : Int :=
  if nameOk x.name = false ∨ (decide (x.lin.sym = []) || nameOk x.lin.sym) = false ∨ (decide (x.lin.minus = []) || nameOk x.lin.minus) = false then 12
  else if 1099511627776 < x.lin.num ∨ x.lin.num < -1099511627776 ∨ (x.lin.sym = x.lin.minus ∧ x.lin.sym ≠ []) then 3 else 0
def firstS : Nat → List Sy → Int × Int
  | _, [] => (0, 0)
  | i, x :: l => if symErr x ≠ 0 then (symErr x, -10 - (i : Int)) else firstS (i + 1) l
def symsFault (S : List Sy) : Int × Int := if 8000 < S.length then (2, -2) else firstS 0 S
def Sy.few (x : Sy) : Prop := x.name.length ≤ 140737488351232 ∧ x.lin.sym.length ≤ 140737488351232 ∧ x.lin.minus.length ≤ 140737488351232
set_option maxHeartbeats 2000000 in
theorem f52_ok (X : Ext) (S : List Sy) (n c : Nat) (ow : Bool) (sz : Nat) (σ : Heap) (hl : look σ n = some ⟨S.flatMap Sy.cells, ow, sz⟩) (ht : ∀ x ∈ S, x.few) (hz : S.length ≤ 140737488351232) :
    CW Tryd.prog X 52 [.slice (some ⟨n, 0, none⟩) S.length c] σ fun v σ' => v = faultV (symsFault S) ∧ σ <+: σ' := by
  refine cw_in Tryd.func52 rfl Tryd.ntmps52 (rs := [.cell 2 26]) rfl (by kernel_rfl) (by exact Nat.le_of_ble_eq_true rfl) ?_
  have hn : n < σ.length := look_lt hl
  have hel := Sy.len S
  by_cases h8 : 8000 < S.length
  · simp only [go_sem, ↓reduceIte, Nat.reduceEqDiff, Nat.reduceAdd, Nat.reduceMul, Nat.reduceLT, Nat.reduceLeDiff, Int.reduceLT, Int.reduceLE, Int.reduceNeg, Int.reduceAdd, Int.reduceSub, Int.reduceMul, Int.reduceToNat, Int.reduceEq, Int.reduceNe, Int.cast_ofNat_Int, Int.natCast_one, Int.natCast_zero, Int.natCast_add, reduceCtorEq, show (8000 : Int) < (S.length : Int) by omega]
    refine ⟨?_, List.prefix_append _ _⟩
    rw [symsFault, if_pos h8]
    rfl
  simp only [go_sem, ↓reduceIte, Nat.reduceEqDiff, Nat.reduceAdd, Nat.reduceMul, Nat.reduceLT, Nat.reduceLeDiff, Int.reduceLT, Int.reduceLE, Int.reduceNeg, Int.reduceAdd, Int.reduceSub, Int.reduceMul, Int.reduceToNat, Int.reduceEq, Int.reduceNe, Int.cast_ofNat_Int, Int.natCast_one, Int.natCast_zero, Int.natCast_add, reduceCtorEq, show ¬ (8000 : Int) < (S.length : Int) by omega]
  have he : symsFault S = firstS 0 S := by rw [symsFault, if_neg h8]
  rw [he]
  refine LW_run (fun k T ρ => ∃ (i : Nat) (τ : Heap), i + k = S.length ∧ ρ = σ ++ some ⟨[.int .i64 0, .int .i64 0], true, 0⟩ :: τ ∧ T 2 = .pointer (some ⟨σ.length, 0, none⟩) ∧ T 11 = .slice (some ⟨n, 0, none⟩) S.length c ∧ T 12 = .int .i64 S.length ∧ T 13 = .int .i64 i
      ∧ firstS 0 S = firstS i (S.drop i)) S.length ⟨0, [], by simp, rfl, rfl, rfl, rfl, rfl, rfl⟩ ?_
  rintro k T _ ⟨i, τ, hk, rfl, t2, t11, t12, t13, hv⟩
  simp only [go_sem, ↓reduceIte, Nat.reduceEqDiff, Nat.reduceAdd, Nat.reduceMul, Nat.reduceLT, Nat.reduceLeDiff, Int.reduceLT, Int.reduceLE, Int.reduceNeg, Int.reduceAdd, Int.reduceSub, Int.reduceMul, Int.reduceToNat, Int.reduceEq, Int.reduceNe, Int.cast_ofNat_Int, Int.natCast_one, Int.natCast_zero, Int.natCast_add, reduceCtorEq, t2, t11, t12, t13]
  refine fork_dec (fun _ => ?_) (fun _ => ?_)
  · rename_i hi
    obtain ⟨x, hx⟩ : ∃ x, S[i]? = some x := ⟨_, List.getElem?_eq_getElem (by omega)⟩
    have hw : IntKind.i64.wrap ((i : Int) + 1) = (i : Int) + 1 := wrap64 (by omega)
    have hw10 : IntKind.i64.wrap (-10 - (i : Int)) = -10 - (i : Int) := wrap64 (by omega)
    obtain ⟨m1, m2, m3⟩ := ht x (List.mem_of_getElem? hx)
    rw [drop_at hx, firstS] at hv
    have bad : ∀ e : Int, e ≠ 0 → symErr x = e → firstS 0 S = (e, -10 - (i : Int)) := fun e h1 h2 => by rw [hv, h2, if_pos h1]
    have good : symErr x = 0 → firstS 0 S = firstS (i + 1) (S.drop (i + 1)) := fun h2 => by rw [hv, h2, if_neg (by simp)]
    simp only [go_sem, ↓reduceIte, Nat.reduceEqDiff, Nat.reduceAdd, Nat.reduceMul, Nat.reduceLT, Nat.reduceLeDiff, Int.reduceLT, Int.reduceLE, Int.reduceNeg, Int.reduceAdd, Int.reduceSub, Int.reduceMul, Int.reduceToNat, Int.reduceEq, Int.reduceNe, Int.cast_ofNat_Int, Int.natCast_one, Int.natCast_zero, Int.natCast_add, reduceCtorEq, t2, t11, t12, t13, hi, look_app_lt hn, hl, Sy.take hx, hel, show i * 4 + 4 ≤ S.length * 4 by omega, Sy.cells]
    refine (f55_ok X x.name m1 _).mono ?_
    rintro _ _ ⟨rfl, rfl⟩
    cases q1 : nameOk x.name with
    | false =>
      simp only [go_sem, ↓reduceIte, Nat.reduceEqDiff, Nat.reduceAdd, Nat.reduceMul, Nat.reduceLT, Nat.reduceLeDiff, Int.reduceLT, Int.reduceLE, Int.reduceNeg, Int.reduceAdd, Int.reduceSub, Int.reduceMul, Int.reduceToNat, Int.reduceEq, Int.reduceNe, Int.cast_ofNat_Int, Int.natCast_one, Int.natCast_zero, Int.natCast_add, reduceCtorEq, t2, t11, t12, t13, hw10]
      rw [bad 12 (by omega) (by rw [symErr, if_pos (.inl q1)])]
      exact ⟨rfl, List.prefix_append _ _⟩
    | true =>
      simp only [go_sem, ↓reduceIte, Nat.reduceEqDiff, Nat.reduceAdd, Nat.reduceMul, Nat.reduceLT, Nat.reduceLeDiff, Int.reduceLT, Int.reduceLE, Int.reduceNeg, Int.reduceAdd, Int.reduceSub, Int.reduceMul, Int.reduceToNat, Int.reduceEq, Int.reduceNe, Int.cast_ofNat_Int, Int.natCast_one, Int.natCast_zero, Int.natCast_add, reduceCtorEq, t2, t11, t12, t13]
      refine (f78_ok X x.lin.sym m2 _).mono ?_
      rintro _ _ ⟨rfl, rfl⟩
      cases q2 : (decide (x.lin.sym = []) || nameOk x.lin.sym) with
      | false =>
        simp only [go_sem, ↓reduceIte, Nat.reduceEqDiff, Nat.reduceAdd, Nat.reduceMul, Nat.reduceLT, Nat.reduceLeDiff, Int.reduceLT, Int.reduceLE, Int.reduceNeg, Int.reduceAdd, Int.reduceSub, Int.reduceMul, Int.reduceToNat, Int.reduceEq, Int.reduceNe, Int.cast_ofNat_Int, Int.natCast_one, Int.natCast_zero, Int.natCast_add, reduceCtorEq, t2, t11, t12, t13, hw10]
        rw [bad 12 (by omega) (by rw [symErr, if_pos (.inr (.inl q2))])]
        exact ⟨rfl, List.prefix_append _ _⟩
      | true =>
        simp only [go_sem, ↓reduceIte, Nat.reduceEqDiff, Nat.reduceAdd, Nat.reduceMul, Nat.reduceLT, Nat.reduceLeDiff, Int.reduceLT, Int.reduceLE, Int.reduceNeg, Int.reduceAdd, Int.reduceSub, Int.reduceMul, Int.reduceToNat, Int.reduceEq, Int.reduceNe, Int.cast_ofNat_Int, Int.natCast_one, Int.natCast_zero, Int.natCast_add, reduceCtorEq, t2, t11, t12, t13]
        refine (f78_ok X x.lin.minus m3 _).mono ?_
        rintro _ _ ⟨rfl, rfl⟩
        cases q3 : (decide (x.lin.minus = []) || nameOk x.lin.minus) with
        | false =>
          simp only [go_sem, ↓reduceIte, Nat.reduceEqDiff, Nat.reduceAdd, Nat.reduceMul, Nat.reduceLT, Nat.reduceLeDiff, Int.reduceLT, Int.reduceLE, Int.reduceNeg, Int.reduceAdd, Int.reduceSub, Int.reduceMul, Int.reduceToNat, Int.reduceEq, Int.reduceNe, Int.cast_ofNat_Int, Int.natCast_one, Int.natCast_zero, Int.natCast_add, reduceCtorEq, t2, t11, t12, t13, hw10]
          rw [bad 12 (by omega) (by rw [symErr, if_pos (.inr (.inr q3))])]
          exact ⟨rfl, List.prefix_append _ _⟩
        | true =>
          have es : symErr x = if 1099511627776 < x.lin.num ∨ x.lin.num < -1099511627776 ∨ (x.lin.sym = x.lin.minus ∧ x.lin.sym ≠ []) then 3 else 0 := by
            rw [symErr, if_neg (by rw [q1, q2, q3]; simp)]
          rw [es] at bad good
          by_cases p1 : 1099511627776 < x.lin.num
          · simp only [go_sem, ↓reduceIte, Nat.reduceEqDiff, Nat.reduceAdd, Nat.reduceMul, Nat.reduceLT, Nat.reduceLeDiff, Int.reduceLT, Int.reduceLE, Int.reduceNeg, Int.reduceAdd, Int.reduceSub, Int.reduceMul, Int.reduceToNat, Int.reduceEq, Int.reduceNe, Int.cast_ofNat_Int, Int.natCast_one, Int.natCast_zero, Int.natCast_add, reduceCtorEq, t2, t11, t12, t13, hw10, p1]
            rw [bad 3 (by omega) (by rw [if_pos (.inl p1)])]
            exact ⟨rfl, List.prefix_append _ _⟩
          · by_cases p2 : x.lin.num < -1099511627776
            · simp only [go_sem, ↓reduceIte, Nat.reduceEqDiff, Nat.reduceAdd, Nat.reduceMul, Nat.reduceLT, Nat.reduceLeDiff, Int.reduceLT, Int.reduceLE, Int.reduceNeg, Int.reduceAdd, Int.reduceSub, Int.reduceMul, Int.reduceToNat, Int.reduceEq, Int.reduceNe, Int.cast_ofNat_Int, Int.natCast_one, Int.natCast_zero, Int.natCast_add, reduceCtorEq, t2, t11, t12, t13, hw10, p1, p2]
              rw [bad 3 (by omega) (by rw [if_pos (.inr (.inl p2))])]
              exact ⟨rfl, List.prefix_append _ _⟩
            · by_cases p3 : x.lin.sym = x.lin.minus
              · by_cases p4 : x.lin.sym = []
                · have p5 : x.lin.minus = [] := p3 ▸ p4
                  simp only [go_sem, ↓reduceIte, Nat.reduceEqDiff, Nat.reduceAdd, Nat.reduceMul, Nat.reduceLT, Nat.reduceLeDiff, Int.reduceLT, Int.reduceLE, Int.reduceNeg, Int.reduceAdd, Int.reduceSub, Int.reduceMul, Int.reduceToNat, Int.reduceEq, Int.reduceNe, Int.cast_ofNat_Int, Int.natCast_one, Int.natCast_zero, Int.natCast_add, reduceCtorEq, t2, t11, t12, t13, hw, p1, p2, p4, p5]
                  refine ⟨k - 1, by omega, i + 1, _, by omega, rfl, ?_⟩
                  (repeat' (first | exact rfl | apply And.intro))
                  exact good (by rw [if_neg (fun h => h.elim p1 (fun h => h.elim p2 (fun h => h.2 p4)))])
                · simp only [go_sem, ↓reduceIte, Nat.reduceEqDiff, Nat.reduceAdd, Nat.reduceMul, Nat.reduceLT, Nat.reduceLeDiff, Int.reduceLT, Int.reduceLE, Int.reduceNeg, Int.reduceAdd, Int.reduceSub, Int.reduceMul, Int.reduceToNat, Int.reduceEq, Int.reduceNe, Int.cast_ofNat_Int, Int.natCast_one, Int.natCast_zero, Int.natCast_add, reduceCtorEq, t2, t11, t12, t13, hw10, p1, p2, eq_true p3, eq_false p4]
                  rw [bad 3 (by omega) (by rw [if_pos (.inr (.inr ⟨p3, p4⟩))])]
                  exact ⟨rfl, List.prefix_append _ _⟩
              · simp only [go_sem, ↓reduceIte, Nat.reduceEqDiff, Nat.reduceAdd, Nat.reduceMul, Nat.reduceLT, Nat.reduceLeDiff, Int.reduceLT, Int.reduceLE, Int.reduceNeg, Int.reduceAdd, Int.reduceSub, Int.reduceMul, Int.reduceToNat, Int.reduceEq, Int.reduceNe, Int.cast_ofNat_Int, Int.natCast_one, Int.natCast_zero, Int.natCast_add, reduceCtorEq, t2, t11, t12, t13, hw, p1, p2, eq_false p3]
                refine ⟨k - 1, by omega, i + 1, _, by omega, rfl, ?_⟩
                (repeat' (first | exact rfl | apply And.intro))
                exact good (by rw [if_neg (fun h => h.elim p1 (fun h => h.elim p2 (fun h => p3 h.1)))])
  · rename_i hi
    simp only [go_sem, ↓reduceIte, Nat.reduceEqDiff, Nat.reduceAdd, Nat.reduceMul, Nat.reduceLT, Nat.reduceLeDiff, Int.reduceLT, Int.reduceLE, Int.reduceNeg, Int.reduceAdd, Int.reduceSub, Int.reduceMul, Int.reduceToNat, Int.reduceEq, Int.reduceNe, Int.cast_ofNat_Int, Int.natCast_one, Int.natCast_zero, Int.natCast_add, reduceCtorEq, t2, t11, t12, t13, hi]
    rw [hv, show S.drop i = [] from List.drop_eq_nil_of_le (by omega)]
    exact ⟨rfl, List.prefix_append _ _⟩
theorem f52_nil (X : Ext) (σ : Heap) : CW Tryd.prog X 52 [.slice none 0 0] σ fun v σ' => v = faultV (0, 0) ∧ σ <+: σ' := by
  refine cw_in Tryd.func52 rfl Tryd.ntmps52 (rs := [.cell 2 26]) rfl (by kernel_rfl) (by exact Nat.le_of_ble_eq_true rfl) ?_
  simp only [go_sem, ↓reduceIte, Nat.reduceEqDiff, Nat.reduceAdd, Nat.reduceMul, Nat.reduceLT, Nat.reduceLeDiff, Int.reduceLT, Int.reduceLE, Int.reduceNeg, Int.reduceAdd, Int.reduceSub, Int.reduceMul, Int.reduceToNat, Int.reduceEq, Int.reduceNe, Int.cast_ofNat_Int, Int.natCast_one, Int.natCast_zero, Int.natCast_add, reduceCtorEq]
  refine LW_unroll ?_
  simp only [go_sem, ↓reduceIte, Nat.reduceEqDiff, Nat.reduceAdd, Nat.reduceMul, Nat.reduceLT, Nat.reduceLeDiff, Int.reduceLT, Int.reduceLE, Int.reduceNeg, Int.reduceAdd, Int.reduceSub, Int.reduceMul, Int.reduceToNat, Int.reduceEq, Int.reduceNe, Int.cast_ofNat_Int, Int.natCast_one, Int.natCast_zero, Int.natCast_add, reduceCtorEq]
  first | exact List.prefix_append _ _ | exact ⟨rfl, List.prefix_append _ _⟩
theorem f52_all (X : Ext) (S : List Sy) (sv : Value) (σ : Heap) (hl : SB σ S sv) (ht : ∀ x ∈ S, x.few) (hz : S.length ≤ 140737488351232) : CW Tryd.prog X 52 [sv] σ fun v σ' => v = faultV (symsFault S) ∧ σ <+: σ' := by
  rcases hl with ⟨rfl, rfl⟩ | ⟨n, c, ow, sz, rfl, hl⟩
  · exact (f52_nil X σ).mono fun v σ' h => ⟨h.1, h.2⟩
  · exact f52_ok X S n c ow sz σ hl ht hz
end Go.Proofs.YtkgdkommahgakaaDoor.Abs
