import Derived.Test.YtkgdkommahgakaaDoorVal2
namespace Go.Proofs.YtkgdkommahgakaaDoor.Abs
open Go Go.RowKit Gram
set_option linter.unusedVariables false
set_option linter.unusedSimpArgs false
set_option maxRecDepth 100000

attribute [go_sem] List.map_toArray
def argA (x : Nd) (V : List Lin) : Lin := if 2 < x.kind then V.getD x.left.toNat Lin.zero else Lin.zero
def argB (x : Nd) (V : List Lin) : Lin := if 4 < x.kind then V.getD x.right.toNat Lin.zero else Lin.zero
def codeOf (ok : Bool) (c : Int) (n : Int) : Int := if ok = false then 8 else if c = 0 ∧ (1099511627776 < n ∨ n < -1099511627776) then 10 else c
def rawVal (x : Nd) (V : List Lin) (S : List Sy) : Lin × Bool × Int :=
  if x.kind = 1 then (⟨[], [], x.value⟩, true, 0)
  else if x.kind = 2 then ((if 0 ≤ idx (S.map (·.name)) x.name then (S[(idx (S.map (·.name)) x.name).toNat]?.map (·.lin)).getD Lin.zero else ⟨x.name, [], 0⟩), true, 0)
  else if x.kind = 3 then ((addL Lin.zero (argA x V) (-1)).getD Lin.zero, (addL Lin.zero (argA x V) (-1)).isSome, 0)
  else if x.kind = 5 then ((addL (argA x V) (argB x V) 1).getD Lin.zero, (addL (argA x V) (argB x V) 1).isSome, 0)
  else if x.kind = 6 then ((addL (argA x V) (argB x V) (-1)).getD Lin.zero, (addL (argA x V) (argB x V) (-1)).isSome, 0)
  else if x.kind = 4 then (⟨[], [], Go.bits .xor .i64 (-1) (argA x V).num⟩, (argA x V).flat, 0)
  else if ((argA x V).flat && (argB x V).flat) = true then (⟨[], [], (calcOf x.kind (argA x V).num (argB x V).num).1⟩, true, (calcOf x.kind (argA x V).num (argB x V).num).2)
  else (Lin.zero, false, 0)
def nodeVal (x : Nd) (V : List Lin) (S : List Sy) : Lin × Int := ((rawVal x V S).1, codeOf (rawVal x V S).2.1 (rawVal x V S).2.2 (rawVal x V S).1.num)
/-- The values so far. -/
def VV (σ : Heap) (V : List Lin) (v : Value) : Prop := (V = [] ∧ v = .slice none 0 0) ∨ ∃ q c, v = .slice (some ⟨q, 0, none⟩) V.length c ∧ 0 < V.length ∧ look σ q = some ⟨V.flatMap Lin.cells, true, 3⟩
theorem Lin.len (L : List Lin) : (L.flatMap Lin.cells).length = L.length * 3 := by
  induction L with
  | nil => rfl
  | cons x L ih => simp only [List.flatMap_cons, List.length_append, ih, List.length_cons, Lin.cells, List.length_nil]; omega
theorem Lin.take {x : Lin} {L : List Lin} {i : Nat} (h : L[i]? = some x) : ((L.flatMap Lin.cells).drop (i * 3)).take 3 = x.cells := chunk_at Lin.cells 3 (fun _ => rfl) x L i h
theorem Sy.drop1 {x : Sy} {L : List Sy} {i : Nat} (h : L[i]? = some x) : ((L.flatMap Sy.cells).drop (i * 4 + 1)).take 3 = x.lin.cells := by
  have := Sy.take h
  rw [← List.drop_drop]
  have h2 : (((L.flatMap Sy.cells).drop (i * 4)).take 4).drop 1 = x.cells.drop 1 := by rw [this]
  rw [List.drop_take] at h2
  exact h2
theorem idx_lt (L : List (List UInt8)) (s : List UInt8) : idx L s < L.length ∨ idx L s = -1 := by
  by_cases h : s ∈ L
  · left
    induction L with
    | nil => simp at h
    | cons x L ih =>
      unfold idx
      split
      · first | (simp; done) | (simp; omega)
      · rename_i hx
        have := ih (by simpa [Ne.symm (show x ≠ s from hx), eq_comm] using h)
        split
        · first | (simp; done) | (simp; omega)
        · first | (simp; done) | (simp; omega)
  · exact .inr (idx_miss L s h)
theorem zero_small : Lin.zero.small := by
  unfold Lin.small Lin.zero
  simp

set_option maxHeartbeats 4000000 in
theorem f53_ok (X : Ext) (x : Nd) (V : List Lin) (S : List Sy) (nv sv : Value) (σ : Heap) (hV : VV σ V nv) (hl : SB σ S sv) (hS : S.length ≤ 1000000)
    (hk : 1 ≤ x.kind ∧ x.kind ≤ 14) (hleft : 2 < x.kind → 0 ≤ x.left ∧ x.left < V.length) (hright : 4 < x.kind → 0 ≤ x.right ∧ x.right < V.length) (hsm : ∀ v ∈ V, v.small) :
    CW Tryd.prog X 53 [.agg x.cells.toArray, nv, sv] σ fun v σ' => v = .tuple #[.agg (nodeVal x V S).1.cells.toArray, .int .i64 (nodeVal x V S).2] ∧ σ <+: σ' := by
  refine cw_in Tryd.func53 rfl Tryd.ntmps53 (rs := [.cell 6 40, .tmp 7]) rfl (by kernel_rfl) (by exact Nat.le_of_ble_eq_true rfl) ?_
  have hvl := Lin.len V
  unfold nodeVal codeOf
  by_cases k1 : x.kind = 1
  · have e : rawVal x V S = (⟨[], [], x.value⟩, true, 0) := by rw [rawVal, if_pos k1]
    rw [e]
    simp only [go_sem, ↓reduceIte, Nat.reduceEqDiff, Nat.reduceAdd, Nat.reduceMul, Nat.reduceLT, Nat.reduceLeDiff, Int.reduceLT, Int.reduceLE, Int.reduceNeg, Int.reduceAdd, Int.reduceSub, Int.reduceMul, Int.reduceToNat, Int.reduceEq, Int.reduceNe, Int.cast_ofNat_Int, Int.natCast_one, Int.natCast_zero, Int.natCast_add, reduceCtorEq, Nd.cells, k1]
    by_cases c1 : 1099511627776 < x.value
    · simp only [go_sem, ↓reduceIte, Nat.reduceEqDiff, Nat.reduceAdd, Nat.reduceMul, Nat.reduceLT, Nat.reduceLeDiff, Int.reduceLT, Int.reduceLE, Int.reduceNeg, Int.reduceAdd, Int.reduceSub, Int.reduceMul, Int.reduceToNat, Int.reduceEq, Int.reduceNe, Int.cast_ofNat_Int, Int.natCast_one, Int.natCast_zero, Int.natCast_add, reduceCtorEq, Lin.cells, Lin.zero, eq_true c1, k1]
      first | exact List.prefix_append _ _ | exact ⟨rfl, List.prefix_append _ _⟩
    · by_cases c2 : x.value < -1099511627776
      · simp only [go_sem, ↓reduceIte, Nat.reduceEqDiff, Nat.reduceAdd, Nat.reduceMul, Nat.reduceLT, Nat.reduceLeDiff, Int.reduceLT, Int.reduceLE, Int.reduceNeg, Int.reduceAdd, Int.reduceSub, Int.reduceMul, Int.reduceToNat, Int.reduceEq, Int.reduceNe, Int.cast_ofNat_Int, Int.natCast_one, Int.natCast_zero, Int.natCast_add, reduceCtorEq, Lin.cells, Lin.zero, eq_false c1, eq_true c2, k1]
        first | exact List.prefix_append _ _ | exact ⟨rfl, List.prefix_append _ _⟩
      · simp only [go_sem, ↓reduceIte, Nat.reduceEqDiff, Nat.reduceAdd, Nat.reduceMul, Nat.reduceLT, Nat.reduceLeDiff, Int.reduceLT, Int.reduceLE, Int.reduceNeg, Int.reduceAdd, Int.reduceSub, Int.reduceMul, Int.reduceToNat, Int.reduceEq, Int.reduceNe, Int.cast_ofNat_Int, Int.natCast_one, Int.natCast_zero, Int.natCast_add, reduceCtorEq, Lin.cells, Lin.zero, eq_false c1, eq_false c2, k1]
        first | exact List.prefix_append _ _ | exact ⟨rfl, List.prefix_append _ _⟩
  by_cases k2 : x.kind = 2
  · have e : rawVal x V S = ((if 0 ≤ idx (S.map (·.name)) x.name then (S[(idx (S.map (·.name)) x.name).toNat]?.map (·.lin)).getD Lin.zero else ⟨x.name, [], 0⟩), true, 0) := by rw [rawVal, if_neg k1, if_pos k2]
    rw [e]
    simp only [go_sem, ↓reduceIte, Nat.reduceEqDiff, Nat.reduceAdd, Nat.reduceMul, Nat.reduceLT, Nat.reduceLeDiff, Int.reduceLT, Int.reduceLE, Int.reduceNeg, Int.reduceAdd, Int.reduceSub, Int.reduceMul, Int.reduceToNat, Int.reduceEq, Int.reduceNe, Int.cast_ofNat_Int, Int.natCast_one, Int.natCast_zero, Int.natCast_add, reduceCtorEq, Nd.cells, k2]
    refine (f79_all X S x sv σ.length true 0 _ (hl.mono (List.prefix_append _ _)) ?hq hS).mono ?_
    case hq => rw [look_app_new, look_zero]; simp only [Nd.cells, k2]
    rintro _ ρ ⟨rfl, τ, rfl⟩
    by_cases hi : 0 ≤ idx (S.map (·.name)) x.name
    · have hlt := idx_lt (S.map (·.name)) x.name
      rw [if_pos hi]
      obtain ⟨j, hj⟩ := Int.eq_ofNat_of_zero_le hi
      rw [hj] at hlt ⊢
      have hjl : j < S.length := by simp at hlt; omega
      obtain ⟨y, hy⟩ : ∃ y, S[j]? = some y := ⟨_, List.getElem?_eq_getElem hjl⟩
      have hyd := Sy.drop1 hy
      rcases hl with ⟨rfl, _⟩ | ⟨n, c, ow, sz, rfl, hl⟩
      · simp at hjl
      have hn := look_lt hl
      have hsl := Sy.len S
      simp only [go_sem, ↓reduceIte, Nat.reduceEqDiff, Nat.reduceAdd, Nat.reduceMul, Nat.reduceLT, Nat.reduceLeDiff, Int.reduceLT, Int.reduceLE, Int.reduceNeg, Int.reduceAdd, Int.reduceSub, Int.reduceMul, Int.reduceToNat, Int.reduceEq, Int.reduceNe, Int.cast_ofNat_Int, Int.natCast_one, Int.natCast_zero, Int.natCast_add, reduceCtorEq, show 0 ≤ (j : Int) by omega, show (j : Int) < (S.length : Int) by omega, look_app_lt hn, hl, hyd, hsl, show j * 4 + 1 + 3 ≤ S.length * 4 by omega, hy, Option.getD_some, Lin.cells]
      by_cases c1 : 1099511627776 < y.lin.num
      · simp only [go_sem, ↓reduceIte, Nat.reduceEqDiff, Nat.reduceAdd, Nat.reduceMul, Nat.reduceLT, Nat.reduceLeDiff, Int.reduceLT, Int.reduceLE, Int.reduceNeg, Int.reduceAdd, Int.reduceSub, Int.reduceMul, Int.reduceToNat, Int.reduceEq, Int.reduceNe, Int.cast_ofNat_Int, Int.natCast_one, Int.natCast_zero, Int.natCast_add, reduceCtorEq, Lin.cells, Lin.zero, eq_true c1, hy]
        first | exact List.prefix_append _ _ | exact ⟨rfl, List.prefix_append _ _⟩
      · by_cases c2 : y.lin.num < -1099511627776
        · simp only [go_sem, ↓reduceIte, Nat.reduceEqDiff, Nat.reduceAdd, Nat.reduceMul, Nat.reduceLT, Nat.reduceLeDiff, Int.reduceLT, Int.reduceLE, Int.reduceNeg, Int.reduceAdd, Int.reduceSub, Int.reduceMul, Int.reduceToNat, Int.reduceEq, Int.reduceNe, Int.cast_ofNat_Int, Int.natCast_one, Int.natCast_zero, Int.natCast_add, reduceCtorEq, Lin.cells, Lin.zero, eq_false c1, eq_true c2, hy]
          first | exact List.prefix_append _ _ | exact ⟨rfl, List.prefix_append _ _⟩
        · simp only [go_sem, ↓reduceIte, Nat.reduceEqDiff, Nat.reduceAdd, Nat.reduceMul, Nat.reduceLT, Nat.reduceLeDiff, Int.reduceLT, Int.reduceLE, Int.reduceNeg, Int.reduceAdd, Int.reduceSub, Int.reduceMul, Int.reduceToNat, Int.reduceEq, Int.reduceNe, Int.cast_ofNat_Int, Int.natCast_one, Int.natCast_zero, Int.natCast_add, reduceCtorEq, Lin.cells, Lin.zero, eq_false c1, eq_false c2, hy]
          first | exact List.prefix_append _ _ | exact ⟨rfl, List.prefix_append _ _⟩
    · rw [if_neg hi]
      simp only [go_sem, ↓reduceIte, Nat.reduceEqDiff, Nat.reduceAdd, Nat.reduceMul, Nat.reduceLT, Nat.reduceLeDiff, Int.reduceLT, Int.reduceLE, Int.reduceNeg, Int.reduceAdd, Int.reduceSub, Int.reduceMul, Int.reduceToNat, Int.reduceEq, Int.reduceNe, Int.cast_ofNat_Int, Int.natCast_one, Int.natCast_zero, Int.natCast_add, reduceCtorEq, hi, Lin.cells, or_self]
      first | exact List.prefix_append _ _ | exact ⟨rfl, List.prefix_append _ _⟩
  obtain ⟨hl0, hl1⟩ := hleft (by omega)
  obtain ⟨l, hlq⟩ := Int.eq_ofNat_of_zero_le hl0
  have hll : l < V.length := by omega
  obtain ⟨a, ha⟩ : ∃ a, V[l]? = some a := ⟨_, List.getElem?_eq_getElem hll⟩
  have hA : argA x V = a := by
    rw [argA, if_pos (by omega), hlq, Int.toNat_natCast, List.getD_eq_getElem?_getD, ha]
    rfl
  have has := hsm a (List.mem_of_getElem? ha)
  have hta := Lin.take ha
  rcases hV with ⟨rfl, _⟩ | ⟨q, cq, rfl, hpos, hq⟩
  · simp at hll
  have hqn := look_lt hq
  have hli : (l : Int) < (V.length : Int) := by omega
  have hlb : l * 3 + 3 ≤ V.length * 3 := by omega
  by_cases k3 : x.kind = 3
  · have e : rawVal x V S = ((addL Lin.zero a (-1)).getD Lin.zero, (addL Lin.zero a (-1)).isSome, 0) := by rw [rawVal, if_neg k1, if_neg k2, if_pos k3, hA]
    rw [e]
    simp only [go_sem, ↓reduceIte, Nat.reduceEqDiff, Nat.reduceAdd, Nat.reduceMul, Nat.reduceLT, Nat.reduceLeDiff, Int.reduceLT, Int.reduceLE, Int.reduceNeg, Int.reduceAdd, Int.reduceSub, Int.reduceMul, Int.reduceToNat, Int.reduceEq, Int.reduceNe, Int.cast_ofNat_Int, Int.natCast_one, Int.natCast_zero, Int.natCast_add, reduceCtorEq, Nd.cells, k3, hlq, hli, look_app_lt hqn, hq, hta, hvl, hlb, Lin.cells]
    refine (f81_ok X Lin.zero a (-1) zero_small has _).mono ?_
    rintro _ ρ ⟨rfl, τ, rfl⟩
    generalize (addL Lin.zero a (-1)).isSome = ok
    generalize (addL Lin.zero a (-1)).getD Lin.zero = r
    cases ok with
    | false =>
      simp only [go_sem, ↓reduceIte, Nat.reduceEqDiff, Nat.reduceAdd, Nat.reduceMul, Nat.reduceLT, Nat.reduceLeDiff, Int.reduceLT, Int.reduceLE, Int.reduceNeg, Int.reduceAdd, Int.reduceSub, Int.reduceMul, Int.reduceToNat, Int.reduceEq, Int.reduceNe, Int.cast_ofNat_Int, Int.natCast_one, Int.natCast_zero, Int.natCast_add, reduceCtorEq, Lin.cells, Lin.zero]
      first | exact List.prefix_append _ _ | exact ⟨rfl, List.prefix_append _ _⟩
    | true =>
      by_cases c1 : 1099511627776 < r.num
      · simp only [go_sem, ↓reduceIte, Nat.reduceEqDiff, Nat.reduceAdd, Nat.reduceMul, Nat.reduceLT, Nat.reduceLeDiff, Int.reduceLT, Int.reduceLE, Int.reduceNeg, Int.reduceAdd, Int.reduceSub, Int.reduceMul, Int.reduceToNat, Int.reduceEq, Int.reduceNe, Int.cast_ofNat_Int, Int.natCast_one, Int.natCast_zero, Int.natCast_add, reduceCtorEq, Lin.cells, Lin.zero, eq_true c1, k1]
        first | exact List.prefix_append _ _ | exact ⟨rfl, List.prefix_append _ _⟩
      · by_cases c2 : r.num < -1099511627776
        · simp only [go_sem, ↓reduceIte, Nat.reduceEqDiff, Nat.reduceAdd, Nat.reduceMul, Nat.reduceLT, Nat.reduceLeDiff, Int.reduceLT, Int.reduceLE, Int.reduceNeg, Int.reduceAdd, Int.reduceSub, Int.reduceMul, Int.reduceToNat, Int.reduceEq, Int.reduceNe, Int.cast_ofNat_Int, Int.natCast_one, Int.natCast_zero, Int.natCast_add, reduceCtorEq, Lin.cells, Lin.zero, eq_false c1, eq_true c2, k1]
          first | exact List.prefix_append _ _ | exact ⟨rfl, List.prefix_append _ _⟩
        · simp only [go_sem, ↓reduceIte, Nat.reduceEqDiff, Nat.reduceAdd, Nat.reduceMul, Nat.reduceLT, Nat.reduceLeDiff, Int.reduceLT, Int.reduceLE, Int.reduceNeg, Int.reduceAdd, Int.reduceSub, Int.reduceMul, Int.reduceToNat, Int.reduceEq, Int.reduceNe, Int.cast_ofNat_Int, Int.natCast_one, Int.natCast_zero, Int.natCast_add, reduceCtorEq, Lin.cells, Lin.zero, eq_false c1, eq_false c2, k1]
          first | exact List.prefix_append _ _ | exact ⟨rfl, List.prefix_append _ _⟩
  by_cases k4 : x.kind = 4
  · have e : rawVal x V S = (⟨[], [], Go.bits .xor .i64 (-1) a.num⟩, a.flat, 0) := by rw [rawVal, if_neg k1, if_neg k2, if_neg k3, if_neg (by omega), if_neg (by omega), if_pos k4, hA]
    rw [e]
    simp only [go_sem, ↓reduceIte, Nat.reduceEqDiff, Nat.reduceAdd, Nat.reduceMul, Nat.reduceLT, Nat.reduceLeDiff, Int.reduceLT, Int.reduceLE, Int.reduceNeg, Int.reduceAdd, Int.reduceSub, Int.reduceMul, Int.reduceToNat, Int.reduceEq, Int.reduceNe, Int.cast_ofNat_Int, Int.natCast_one, Int.natCast_zero, Int.natCast_add, reduceCtorEq, Nd.cells, k4, hlq, hli, look_app_lt hqn, hq, hta, hvl, hlb, Lin.cells]
    refine (f82_ok X a _).mono ?_
    rintro _ ρ ⟨rfl, τ, rfl⟩
    cases a.flat with
    | false =>
      simp only [go_sem, ↓reduceIte, Nat.reduceEqDiff, Nat.reduceAdd, Nat.reduceMul, Nat.reduceLT, Nat.reduceLeDiff, Int.reduceLT, Int.reduceLE, Int.reduceNeg, Int.reduceAdd, Int.reduceSub, Int.reduceMul, Int.reduceToNat, Int.reduceEq, Int.reduceNe, Int.cast_ofNat_Int, Int.natCast_one, Int.natCast_zero, Int.natCast_add, reduceCtorEq, Lin.cells, Lin.zero]
      first | exact List.prefix_append _ _ | exact ⟨rfl, List.prefix_append _ _⟩
    | true =>
      by_cases c1 : 1099511627776 < Go.bits .xor .i64 (-1) a.num
      · simp only [go_sem, ↓reduceIte, Nat.reduceEqDiff, Nat.reduceAdd, Nat.reduceMul, Nat.reduceLT, Nat.reduceLeDiff, Int.reduceLT, Int.reduceLE, Int.reduceNeg, Int.reduceAdd, Int.reduceSub, Int.reduceMul, Int.reduceToNat, Int.reduceEq, Int.reduceNe, Int.cast_ofNat_Int, Int.natCast_one, Int.natCast_zero, Int.natCast_add, reduceCtorEq, Lin.cells, Lin.zero, eq_true c1, k1]
        first | exact List.prefix_append _ _ | exact ⟨rfl, List.prefix_append _ _⟩
      · by_cases c2 : Go.bits .xor .i64 (-1) a.num < -1099511627776
        · simp only [go_sem, ↓reduceIte, Nat.reduceEqDiff, Nat.reduceAdd, Nat.reduceMul, Nat.reduceLT, Nat.reduceLeDiff, Int.reduceLT, Int.reduceLE, Int.reduceNeg, Int.reduceAdd, Int.reduceSub, Int.reduceMul, Int.reduceToNat, Int.reduceEq, Int.reduceNe, Int.cast_ofNat_Int, Int.natCast_one, Int.natCast_zero, Int.natCast_add, reduceCtorEq, Lin.cells, Lin.zero, eq_false c1, eq_true c2, k1]
          first | exact List.prefix_append _ _ | exact ⟨rfl, List.prefix_append _ _⟩
        · simp only [go_sem, ↓reduceIte, Nat.reduceEqDiff, Nat.reduceAdd, Nat.reduceMul, Nat.reduceLT, Nat.reduceLeDiff, Int.reduceLT, Int.reduceLE, Int.reduceNeg, Int.reduceAdd, Int.reduceSub, Int.reduceMul, Int.reduceToNat, Int.reduceEq, Int.reduceNe, Int.cast_ofNat_Int, Int.natCast_one, Int.natCast_zero, Int.natCast_add, reduceCtorEq, Lin.cells, Lin.zero, eq_false c1, eq_false c2, k1]
          first | exact List.prefix_append _ _ | exact ⟨rfl, List.prefix_append _ _⟩
  obtain ⟨hr0, hr1⟩ := hright (by omega)
  obtain ⟨r, hrq⟩ := Int.eq_ofNat_of_zero_le hr0
  have hrl : r < V.length := by omega
  obtain ⟨b, hb⟩ : ∃ b, V[r]? = some b := ⟨_, List.getElem?_eq_getElem hrl⟩
  have hB : argB x V = b := by
    rw [argB, if_pos (by omega), hrq, Int.toNat_natCast, List.getD_eq_getElem?_getD, hb]
    rfl
  have hbs := hsm b (List.mem_of_getElem? hb)
  have htb := Lin.take hb
  have hri : (r : Int) < (V.length : Int) := by omega
  have hrb : r * 3 + 3 ≤ V.length * 3 := by omega
  by_cases k5 : x.kind = 5
  · have e : rawVal x V S = ((addL a b 1).getD Lin.zero, (addL a b 1).isSome, 0) := by rw [rawVal, if_neg k1, if_neg k2, if_neg k3, if_pos k5, hA, hB]
    rw [e]
    simp only [go_sem, ↓reduceIte, Nat.reduceEqDiff, Nat.reduceAdd, Nat.reduceMul, Nat.reduceLT, Nat.reduceLeDiff, Int.reduceLT, Int.reduceLE, Int.reduceNeg, Int.reduceAdd, Int.reduceSub, Int.reduceMul, Int.reduceToNat, Int.reduceEq, Int.reduceNe, Int.cast_ofNat_Int, Int.natCast_one, Int.natCast_zero, Int.natCast_add, reduceCtorEq, Nd.cells, k5, hlq, hli, hrq, hri, look_app_lt hqn, hq, hta, htb, hvl, hlb, hrb, Lin.cells]
    refine (f81_ok X a b 1 has hbs _).mono ?_
    rintro _ ρ ⟨rfl, τ, rfl⟩
    generalize (addL a b 1).isSome = ok
    generalize (addL a b 1).getD Lin.zero = r
    cases ok with
    | false =>
      simp only [go_sem, ↓reduceIte, Nat.reduceEqDiff, Nat.reduceAdd, Nat.reduceMul, Nat.reduceLT, Nat.reduceLeDiff, Int.reduceLT, Int.reduceLE, Int.reduceNeg, Int.reduceAdd, Int.reduceSub, Int.reduceMul, Int.reduceToNat, Int.reduceEq, Int.reduceNe, Int.cast_ofNat_Int, Int.natCast_one, Int.natCast_zero, Int.natCast_add, reduceCtorEq, Lin.cells, Lin.zero]
      first | exact List.prefix_append _ _ | exact ⟨rfl, List.prefix_append _ _⟩
    | true =>
      by_cases c1 : 1099511627776 < r.num
      · simp only [go_sem, ↓reduceIte, Nat.reduceEqDiff, Nat.reduceAdd, Nat.reduceMul, Nat.reduceLT, Nat.reduceLeDiff, Int.reduceLT, Int.reduceLE, Int.reduceNeg, Int.reduceAdd, Int.reduceSub, Int.reduceMul, Int.reduceToNat, Int.reduceEq, Int.reduceNe, Int.cast_ofNat_Int, Int.natCast_one, Int.natCast_zero, Int.natCast_add, reduceCtorEq, Lin.cells, Lin.zero, eq_true c1, k1]
        first | exact List.prefix_append _ _ | exact ⟨rfl, List.prefix_append _ _⟩
      · by_cases c2 : r.num < -1099511627776
        · simp only [go_sem, ↓reduceIte, Nat.reduceEqDiff, Nat.reduceAdd, Nat.reduceMul, Nat.reduceLT, Nat.reduceLeDiff, Int.reduceLT, Int.reduceLE, Int.reduceNeg, Int.reduceAdd, Int.reduceSub, Int.reduceMul, Int.reduceToNat, Int.reduceEq, Int.reduceNe, Int.cast_ofNat_Int, Int.natCast_one, Int.natCast_zero, Int.natCast_add, reduceCtorEq, Lin.cells, Lin.zero, eq_false c1, eq_true c2, k1]
          first | exact List.prefix_append _ _ | exact ⟨rfl, List.prefix_append _ _⟩
        · simp only [go_sem, ↓reduceIte, Nat.reduceEqDiff, Nat.reduceAdd, Nat.reduceMul, Nat.reduceLT, Nat.reduceLeDiff, Int.reduceLT, Int.reduceLE, Int.reduceNeg, Int.reduceAdd, Int.reduceSub, Int.reduceMul, Int.reduceToNat, Int.reduceEq, Int.reduceNe, Int.cast_ofNat_Int, Int.natCast_one, Int.natCast_zero, Int.natCast_add, reduceCtorEq, Lin.cells, Lin.zero, eq_false c1, eq_false c2, k1]
          first | exact List.prefix_append _ _ | exact ⟨rfl, List.prefix_append _ _⟩
  by_cases k6 : x.kind = 6
  · have e : rawVal x V S = ((addL a b (-1)).getD Lin.zero, (addL a b (-1)).isSome, 0) := by rw [rawVal, if_neg k1, if_neg k2, if_neg k3, if_neg k5, if_pos k6, hA, hB]
    rw [e]
    simp only [go_sem, ↓reduceIte, Nat.reduceEqDiff, Nat.reduceAdd, Nat.reduceMul, Nat.reduceLT, Nat.reduceLeDiff, Int.reduceLT, Int.reduceLE, Int.reduceNeg, Int.reduceAdd, Int.reduceSub, Int.reduceMul, Int.reduceToNat, Int.reduceEq, Int.reduceNe, Int.cast_ofNat_Int, Int.natCast_one, Int.natCast_zero, Int.natCast_add, reduceCtorEq, Nd.cells, k6, hlq, hli, hrq, hri, look_app_lt hqn, hq, hta, htb, hvl, hlb, hrb, Lin.cells]
    refine (f81_ok X a b (-1) has hbs _).mono ?_
    rintro _ ρ ⟨rfl, τ, rfl⟩
    generalize (addL a b (-1)).isSome = ok
    generalize (addL a b (-1)).getD Lin.zero = r
    cases ok with
    | false =>
      simp only [go_sem, ↓reduceIte, Nat.reduceEqDiff, Nat.reduceAdd, Nat.reduceMul, Nat.reduceLT, Nat.reduceLeDiff, Int.reduceLT, Int.reduceLE, Int.reduceNeg, Int.reduceAdd, Int.reduceSub, Int.reduceMul, Int.reduceToNat, Int.reduceEq, Int.reduceNe, Int.cast_ofNat_Int, Int.natCast_one, Int.natCast_zero, Int.natCast_add, reduceCtorEq, Lin.cells, Lin.zero]
      first | exact List.prefix_append _ _ | exact ⟨rfl, List.prefix_append _ _⟩
    | true =>
      by_cases c1 : 1099511627776 < r.num
      · simp only [go_sem, ↓reduceIte, Nat.reduceEqDiff, Nat.reduceAdd, Nat.reduceMul, Nat.reduceLT, Nat.reduceLeDiff, Int.reduceLT, Int.reduceLE, Int.reduceNeg, Int.reduceAdd, Int.reduceSub, Int.reduceMul, Int.reduceToNat, Int.reduceEq, Int.reduceNe, Int.cast_ofNat_Int, Int.natCast_one, Int.natCast_zero, Int.natCast_add, reduceCtorEq, Lin.cells, Lin.zero, eq_true c1, k1]
        first | exact List.prefix_append _ _ | exact ⟨rfl, List.prefix_append _ _⟩
      · by_cases c2 : r.num < -1099511627776
        · simp only [go_sem, ↓reduceIte, Nat.reduceEqDiff, Nat.reduceAdd, Nat.reduceMul, Nat.reduceLT, Nat.reduceLeDiff, Int.reduceLT, Int.reduceLE, Int.reduceNeg, Int.reduceAdd, Int.reduceSub, Int.reduceMul, Int.reduceToNat, Int.reduceEq, Int.reduceNe, Int.cast_ofNat_Int, Int.natCast_one, Int.natCast_zero, Int.natCast_add, reduceCtorEq, Lin.cells, Lin.zero, eq_false c1, eq_true c2, k1]
          first | exact List.prefix_append _ _ | exact ⟨rfl, List.prefix_append _ _⟩
        · simp only [go_sem, ↓reduceIte, Nat.reduceEqDiff, Nat.reduceAdd, Nat.reduceMul, Nat.reduceLT, Nat.reduceLeDiff, Int.reduceLT, Int.reduceLE, Int.reduceNeg, Int.reduceAdd, Int.reduceSub, Int.reduceMul, Int.reduceToNat, Int.reduceEq, Int.reduceNe, Int.cast_ofNat_Int, Int.natCast_one, Int.natCast_zero, Int.natCast_add, reduceCtorEq, Lin.cells, Lin.zero, eq_false c1, eq_false c2, k1]
          first | exact List.prefix_append _ _ | exact ⟨rfl, List.prefix_append _ _⟩
  have e : rawVal x V S = if (a.flat && b.flat) = true then (⟨[], [], (calcOf x.kind a.num b.num).1⟩, true, (calcOf x.kind a.num b.num).2) else (Lin.zero, false, 0) := by
    rw [rawVal, if_neg k1, if_neg k2, if_neg k3, if_neg k5, if_neg k6, if_neg k4, hA, hB]
  rw [e]
  have g2 : 2 < x.kind := by omega
  have g4 : 4 < x.kind := by omega
  simp only [go_sem, ↓reduceIte, Nat.reduceEqDiff, Nat.reduceAdd, Nat.reduceMul, Nat.reduceLT, Nat.reduceLeDiff, Int.reduceLT, Int.reduceLE, Int.reduceNeg, Int.reduceAdd, Int.reduceSub, Int.reduceMul, Int.reduceToNat, Int.reduceEq, Int.reduceNe, Int.cast_ofNat_Int, Int.natCast_one, Int.natCast_zero, Int.natCast_add, reduceCtorEq, Nd.cells, k1, k2, k3, k4, k5, k6, g2, g4, hlq, hli, hrq, hri, look_app_lt hqn, hq, hta, htb, hvl, hlb, hrb, Lin.cells]
  refine (f82_ok X a _).mono ?_
  rintro _ ρ ⟨rfl, τ, rfl⟩
  cases hfa : a.flat with
  | false =>
    simp only [go_sem, ↓reduceIte, Nat.reduceEqDiff, Nat.reduceAdd, Nat.reduceMul, Nat.reduceLT, Nat.reduceLeDiff, Int.reduceLT, Int.reduceLE, Int.reduceNeg, Int.reduceAdd, Int.reduceSub, Int.reduceMul, Int.reduceToNat, Int.reduceEq, Int.reduceNe, Int.cast_ofNat_Int, Int.natCast_one, Int.natCast_zero, Int.natCast_add, reduceCtorEq, Lin.cells, Lin.zero, k1, k2, k3, k4, k5, k6]
    first | exact List.prefix_append _ _ | exact ⟨rfl, List.prefix_append _ _⟩
  | true =>
    simp only [go_sem, ↓reduceIte, Nat.reduceEqDiff, Nat.reduceAdd, Nat.reduceMul, Nat.reduceLT, Nat.reduceLeDiff, Int.reduceLT, Int.reduceLE, Int.reduceNeg, Int.reduceAdd, Int.reduceSub, Int.reduceMul, Int.reduceToNat, Int.reduceEq, Int.reduceNe, Int.cast_ofNat_Int, Int.natCast_one, Int.natCast_zero, Int.natCast_add, reduceCtorEq, Lin.cells, Lin.zero, k1, k2, k3, k4, k5, k6]
    refine (f82_ok X b _).mono ?_
    rintro _ ρ ⟨rfl, τ2, rfl⟩
    cases hfb : b.flat with
    | false =>
      simp only [go_sem, ↓reduceIte, Nat.reduceEqDiff, Nat.reduceAdd, Nat.reduceMul, Nat.reduceLT, Nat.reduceLeDiff, Int.reduceLT, Int.reduceLE, Int.reduceNeg, Int.reduceAdd, Int.reduceSub, Int.reduceMul, Int.reduceToNat, Int.reduceEq, Int.reduceNe, Int.cast_ofNat_Int, Int.natCast_one, Int.natCast_zero, Int.natCast_add, reduceCtorEq, Lin.cells, Lin.zero, k1, k2, k3, k4, k5, k6]
      first | exact List.prefix_append _ _ | exact ⟨rfl, List.prefix_append _ _⟩
    | true =>
      simp only [go_sem, ↓reduceIte, Nat.reduceEqDiff, Nat.reduceAdd, Nat.reduceMul, Nat.reduceLT, Nat.reduceLeDiff, Int.reduceLT, Int.reduceLE, Int.reduceNeg, Int.reduceAdd, Int.reduceSub, Int.reduceMul, Int.reduceToNat, Int.reduceEq, Int.reduceNe, Int.cast_ofNat_Int, Int.natCast_one, Int.natCast_zero, Int.natCast_add, reduceCtorEq, Lin.cells, Lin.zero, k1, k2, k3, k4, k5, k6]
      refine (f83_ok X x.kind a.num b.num _).mono ?_
      rintro _ _ ⟨rfl, rfl⟩
      generalize (calcOf x.kind a.num b.num).1 = m
      by_cases cz : (calcOf x.kind a.num b.num).2 = 0
      · rw [cz]
        by_cases c1 : 1099511627776 < m
        · simp only [go_sem, ↓reduceIte, Nat.reduceEqDiff, Nat.reduceAdd, Nat.reduceMul, Nat.reduceLT, Nat.reduceLeDiff, Int.reduceLT, Int.reduceLE, Int.reduceNeg, Int.reduceAdd, Int.reduceSub, Int.reduceMul, Int.reduceToNat, Int.reduceEq, Int.reduceNe, Int.cast_ofNat_Int, Int.natCast_one, Int.natCast_zero, Int.natCast_add, reduceCtorEq, Lin.cells, Lin.zero, eq_true c1, k1]
          first | exact List.prefix_append _ _ | exact ⟨rfl, List.prefix_append _ _⟩
        · by_cases c2 : m < -1099511627776
          · simp only [go_sem, ↓reduceIte, Nat.reduceEqDiff, Nat.reduceAdd, Nat.reduceMul, Nat.reduceLT, Nat.reduceLeDiff, Int.reduceLT, Int.reduceLE, Int.reduceNeg, Int.reduceAdd, Int.reduceSub, Int.reduceMul, Int.reduceToNat, Int.reduceEq, Int.reduceNe, Int.cast_ofNat_Int, Int.natCast_one, Int.natCast_zero, Int.natCast_add, reduceCtorEq, Lin.cells, Lin.zero, eq_false c1, eq_true c2, k1]
            first | exact List.prefix_append _ _ | exact ⟨rfl, List.prefix_append _ _⟩
          · simp only [go_sem, ↓reduceIte, Nat.reduceEqDiff, Nat.reduceAdd, Nat.reduceMul, Nat.reduceLT, Nat.reduceLeDiff, Int.reduceLT, Int.reduceLE, Int.reduceNeg, Int.reduceAdd, Int.reduceSub, Int.reduceMul, Int.reduceToNat, Int.reduceEq, Int.reduceNe, Int.cast_ofNat_Int, Int.natCast_one, Int.natCast_zero, Int.natCast_add, reduceCtorEq, Lin.cells, Lin.zero, eq_false c1, eq_false c2, k1]
            first | exact List.prefix_append _ _ | exact ⟨rfl, List.prefix_append _ _⟩
      · simp only [go_sem, ↓reduceIte, Nat.reduceEqDiff, Nat.reduceAdd, Nat.reduceMul, Nat.reduceLT, Nat.reduceLeDiff, Int.reduceLT, Int.reduceLE, Int.reduceNeg, Int.reduceAdd, Int.reduceSub, Int.reduceMul, Int.reduceToNat, Int.reduceEq, Int.reduceNe, Int.cast_ofNat_Int, Int.natCast_one, Int.natCast_zero, Int.natCast_add, reduceCtorEq, Lin.cells, Lin.zero, eq_false cz]
        first | exact List.prefix_append _ _ | exact ⟨rfl, List.prefix_append _ _⟩
end Go.Proofs.YtkgdkommahgakaaDoor.Abs
