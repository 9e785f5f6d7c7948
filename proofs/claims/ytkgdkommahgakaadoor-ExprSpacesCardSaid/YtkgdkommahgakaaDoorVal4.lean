import Derived.Test.YtkgdkommahgakaaDoorVal3
namespace Go.Proofs.YtkgdkommahgakaaDoor.Abs
open Go Go.RowKit Gram
set_option linter.unusedVariables false
set_option linter.unusedSimpArgs false
set_option maxRecDepth 100000

def evalL (S : List Sy) : List Nd → List Lin → (Int × Int) ⊕ List Lin
  | [], V => .inr V
  | x :: l, V => if (nodeVal x V S).2 ≠ 0 then .inl ((nodeVal x V S).2, V.length) else evalL S l (V ++ [(nodeVal x V S).1])
def valFault (E : List Nd) (S : List Sy) : Int × Int := if (exprFault E).1 = 0 then symsFault S else exprFault E
def valueOf (E : List Nd) (S : List Sy) : Lin × (Int × Int) :=
  if (valFault E S).1 ≠ 0 then (Lin.zero, valFault E S) else match evalL S E [] with
    | .inl f => (Lin.zero, f)
    | .inr V => ((V.getLast?).getD Lin.zero, (0, 0))
theorem firstE_zero : ∀ (l : List Nd) (i : Nat), (firstE i l).1 = 0 → firstE i l = (0, 0) ∧ ∀ (j : Nat) (x : Nd), l[j]? = some x → nodeErr x (i + j) = 0
  | [], i, _ => ⟨rfl, fun j x h => by simp at h⟩
  | y :: l, i, h => by
    unfold firstE at h ⊢
    split at h
    · rename_i hne; exact absurd h hne
    · rename_i hne
      rw [if_neg hne]
      obtain ⟨h1, h2⟩ := firstE_zero l (i + 1) h
      refine ⟨h1, fun j x hx => ?_⟩
      cases j with
      | zero =>
        simp only [List.getElem?_cons_zero, Option.some.injEq] at hx
        subst hx
        exact Decidable.not_not.1 hne
      | succ j =>
        have := h2 j x (by simpa using hx)
        rw [show i + 1 + j = i + (j + 1) by omega] at this
        exact this
theorem exprFault_zero {E : List Nd} (h : (exprFault E).1 = 0) : exprFault E = (0, 0) ∧ 1 ≤ E.length ∧ E.length ≤ 60 ∧ ∀ (j : Nat) (x : Nd), E[j]? = some x → nodeErr x j = 0 := by
  unfold exprFault at h ⊢
  split at h
  · simp at h
  · rename_i hl
    rw [if_neg hl]
    obtain ⟨h1, h2⟩ := firstE_zero E 0 h
    exact ⟨h1, by omega, by omega, fun j x hx => by have := h2 j x hx; simpa using this⟩
theorem firstS_zero : ∀ (l : List Sy) (i : Nat), (firstS i l).1 = 0 → firstS i l = (0, 0) ∧ ∀ x ∈ l, symErr x = 0
  | [], i, _ => ⟨rfl, by simp⟩
  | y :: l, i, h => by
    unfold firstS at h ⊢
    split at h
    · rename_i hne; exact absurd h hne
    · rename_i hne
      rw [if_neg hne]
      obtain ⟨h1, h2⟩ := firstS_zero l (i + 1) h
      refine ⟨h1, fun x hx => ?_⟩
      rcases List.mem_cons.1 hx with rfl | hx
      · exact Decidable.not_not.1 hne
      · exact h2 x hx
theorem symsFault_zero {S : List Sy} (h : (symsFault S).1 = 0) : symsFault S = (0, 0) ∧ S.length ≤ 8000 ∧ ∀ x ∈ S, symErr x = 0 := by
  unfold symsFault at h ⊢
  split at h
  · simp at h
  · rename_i hl
    rw [if_neg hl]
    obtain ⟨h1, h2⟩ := firstS_zero S 0 h
    exact ⟨h1, by omega, h2⟩
theorem nodeErr_zero {x : Nd} {i : Nat} (h : nodeErr x i = 0) : (1 ≤ x.kind ∧ x.kind ≤ 14) ∧ (x.kind = 1 → 0 ≤ x.value ∧ x.value < 4294967296) ∧ (x.kind = 2 → nameOk x.name = true) ∧ (2 < x.kind → 0 ≤ x.left ∧ x.left < i) ∧ (4 < x.kind → 0 ≤ x.right ∧ x.right < i) := by
  unfold nodeErr at h
  repeat' split at h
  all_goals first | (simp at h; done) | skip
  rename_i h1 h2 h3 h4
  refine ⟨by omega, fun hk => by omega, fun hk => ?_, fun hk => by omega, fun hk => by omega⟩
  cases hn : nameOk x.name with
  | true => rfl
  | false => exact absurd ⟨hk, hn⟩ h3
theorem nameOk_len {l : List UInt8} (h : nameOk l = true) : l.length ≤ 16 := by
  unfold nameOk at h
  simp only [Bool.and_eq_true, decide_eq_true_eq] at h
  exact h.2.1
theorem symErr_zero {x : Sy} (h : symErr x = 0) : nameOk x.name = true ∧ x.lin.small ∧ (x.lin.sym = x.lin.minus → x.lin.sym = []) := by
  unfold symErr at h
  split at h
  · simp at h
  · rename_i h1
    split at h
    · simp at h
    · rename_i h2
      simp only [not_or, Bool.not_eq_false, Bool.or_eq_true, decide_eq_true_eq] at h1
      obtain ⟨a1, a2, a3⟩ := h1
      refine ⟨a1, ⟨?_, ?_, by omega, by omega⟩, fun he => ?_⟩
      · rcases a2 with a2 | a2
        · rw [a2]; simp
        · have := nameOk_len a2; omega
      · rcases a3 with a3 | a3
        · rw [a3]; simp
        · have := nameOk_len a3; omega
      · by_cases hs : x.lin.sym = []
        · exact hs
        · exact absurd (.inr (.inr ⟨he, hs⟩)) h2
theorem sumL_len {a b r : Lin} (ha : a.sym.length ≤ 1000 ∧ a.minus.length ≤ 1000) (hb : b.sym.length ≤ 1000 ∧ b.minus.length ≤ 1000) (h : sumL a b = some r) : r.sym.length ≤ 1000 ∧ r.minus.length ≤ 1000 := by
  unfold sumL at h
  simp only at h
  have h1 := cancel_len (s := a.sym) (m0 := a.minus) (m1 := b.minus) (k := 1000) ⟨ha.1, ha.2, hb.2⟩
  generalize cancel a.sym a.minus b.minus = c at *
  have h2 := cancel_len (s := b.sym) (m0 := c.2.1) (m1 := c.2.2) (k := 1000) ⟨hb.1, h1.2.1, h1.2.2⟩
  generalize cancel b.sym c.2.1 c.2.2 = d at *
  split at h
  · simp at h
  · rename_i hn
    obtain rfl := Option.some.inj h
    simp only [List.length_append]
    have e1 : c.1 = [] ∨ d.1 = [] := by
      by_cases q : c.1 = []
      · exact .inl q
      · by_cases q2 : d.1 = []
        · exact .inr q2
        · exact absurd (.inl ⟨q, q2⟩) hn
    have e2 : d.2.1 = [] ∨ d.2.2 = [] := by
      by_cases q : d.2.1 = []
      · exact .inl q
      · by_cases q2 : d.2.2 = []
        · exact .inr q2
        · exact absurd (.inr ⟨q, q2⟩) hn
    constructor
    · rcases e1 with e | e <;> rw [e] <;> simp <;> omega
    · rcases e2 with e | e <;> rw [e] <;> simp <;> omega
theorem addL_len {a b : Lin} {s : Int} (ha : a.small) (hb : b.small) : ((addL a b s).getD Lin.zero).sym.length ≤ 1000 ∧ ((addL a b s).getD Lin.zero).minus.length ≤ 1000 := by
  cases h : addL a b s with
  | none => simp [Lin.zero]
  | some r =>
    simp only [Option.getD_some]
    unfold addL at h
    refine sumL_len ⟨ha.1, ha.2.1⟩ ?_ h
    unfold turn
    split
    · exact ⟨hb.2.1, hb.1⟩
    · exact ⟨hb.1, hb.2.1⟩
theorem code_near {ok : Bool} {c n : Int} (h : codeOf ok c n = 0) : -1099511627776 ≤ n ∧ n ≤ 1099511627776 ∧ ok = true ∧ c = 0 := by
  unfold codeOf at h
  split at h
  · simp at h
  · rename_i hok
    split at h
    · simp at h
    · rename_i h2
      exact ⟨by omega, by omega, by simpa using hok, h⟩
theorem arg_small {V : List Lin} (hV : ∀ v ∈ V, v.small) (i : Nat) : (V.getD i Lin.zero).small := by
  rw [List.getD_eq_getElem?_getD]
  cases h : V[i]? with
  | none => exact zero_small
  | some v => exact hV v (List.mem_of_getElem? h)
theorem argA_small {x : Nd} {V : List Lin} (hV : ∀ v ∈ V, v.small) : (argA x V).small := by
  unfold argA
  split
  · exact arg_small hV _
  · exact zero_small
theorem argB_small {x : Nd} {V : List Lin} (hV : ∀ v ∈ V, v.small) : (argB x V).small := by
  unfold argB
  split
  · exact arg_small hV _
  · exact zero_small
theorem nodeVal_small {x : Nd} {V : List Lin} {S : List Sy} {i : Nat} (hx : nodeErr x i = 0) (hS : ∀ y ∈ S, symErr y = 0) (hV : ∀ v ∈ V, v.small) (h : (nodeVal x V S).2 = 0) : (nodeVal x V S).1.small := by
  obtain ⟨c1, c2, _, _⟩ := code_near h
  obtain ⟨n1, n2, n3, n4, n5⟩ := nodeErr_zero hx
  unfold nodeVal at *
  simp only at *
  have hlen : (rawVal x V S).1.sym.length ≤ 1000 ∧ (rawVal x V S).1.minus.length ≤ 1000 := by
    unfold rawVal
    by_cases k1 : x.kind = 1
    · rw [if_pos k1]; simp
    rw [if_neg k1]
    by_cases k2 : x.kind = 2
    · rw [if_pos k2]
      simp only
      split
      · cases hy : S[(idx (S.map (·.name)) x.name).toNat]? with
        | none => simp [Lin.zero]
        | some y =>
          have := (symErr_zero (hS y (List.mem_of_getElem? hy))).2.1
          exact ⟨this.1, this.2.1⟩
      · have := nameOk_len (n3 k2)
        exact ⟨by simp; omega, by simp⟩
    rw [if_neg k2]
    repeat' split
    all_goals first | exact addL_len zero_small (argA_small hV) | exact addL_len (argA_small hV) (argB_small hV) | (simp [Lin.zero]; done)
  exact ⟨hlen.1, hlen.2, c1, c2⟩

def VB (b : Nat) (σ : Heap) (V : List Lin) (v : Value) : Prop := (V = [] ∧ v = .slice none 0 0) ∨ ∃ q c, v = .slice (some ⟨q, 0, none⟩) V.length c ∧ b ≤ q ∧ 0 < V.length ∧ look σ q = some ⟨V.flatMap Lin.cells, true, 3⟩
theorem VB.vv {b : Nat} {σ : Heap} {V : List Lin} {v : Value} (h : VB b σ V v) : VV σ V v := by
  rcases h with h | ⟨q, c, h1, h2, h3, h4⟩
  · exact .inl h
  · exact .inr ⟨q, c, h1, h3, h4⟩
theorem VB.mono {b : Nat} {σ σ' : Heap} {V : List Lin} {v : Value} (h : VB b σ V v) (hp : σ <+: σ') : VB b σ' V v := by
  rcases h with h | ⟨q, c, h1, h2, h3, h4⟩
  · exact .inl h
  · exact .inr ⟨q, c, h1, h2, h3, look_prefix hp h4⟩
theorem app_lin {σ0 σ : Heap} {V : List Lin} {nv : Value} (hp : σ0 <+: σ) (h : VB σ0.length σ V nv) (x : Lin) (hs : V.length ≤ 1000) :
    ∃ nv' σ', aappend Tryd.prog (σ ++ [some ⟨x.cells, true, 3⟩]) #[84, 84] nv (.slice (some ⟨σ.length, 0, none⟩) 1 1) = some (nv', σ') ∧ σ0 <+: σ' ∧ VB σ0.length σ' (V ++ [x]) nv' := by
  have hsrc : asrc (σ ++ [some ⟨x.cells, true, 3⟩]) 3 (.slice (some ⟨σ.length, 0, none⟩) 1 1) = some (1, x.cells) := by
    rw [src_ptr (b := ⟨x.cells, true, 3⟩) (by rw [look_app_new, look_zero]) (by simp [Lin.cells])]
    rfl
  have hl := hp.length_le
  rcases h with ⟨rfl, rfl⟩ | ⟨q, c, rfl, h2, h3, h4⟩
  · rw [an84_84, hsrc, Option.bind_some, if_pos (by simp)]
    refine ⟨_, _, rfl, (hp.trans (List.prefix_append _ _)).trans (List.prefix_append _ _), .inr ⟨_, _, rfl, by simp; omega, by simp, ?_⟩⟩
    rw [look_app_new, look_zero]
    simp
  · have hq := look_lt h4
    have hnl := Lin.len V
    rw [ap84_84, hsrc, Option.bind_some, if_pos (by simp; omega), if_neg (by omega), look_app_lt hq, h4, Option.bind_some, if_pos (by simp [hnl])]
    refine ⟨_, _, rfl, (prefix_set (hp.trans (List.prefix_append _ _)) h2).trans (List.prefix_append _ _), .inr ⟨(σ ++ [some (⟨x.cells, true, 3⟩ : Blk)]).length, V.length + 1 + 1, by simp, by simp; omega, by simp, ?_⟩⟩
    have hh := look_app_new (σ := (σ ++ [some (⟨x.cells, true, 3⟩ : Blk)]).set q none) (l := [some ⟨V.flatMap Lin.cells ++ x.cells, true, 3⟩])
    rw [List.length_set] at hh
    rw [List.drop_zero, hh, look_zero, List.flatMap_append]
    simp
theorem vb_len {b : Nat} {σ : Heap} {V : List Lin} {nv : Value} (h : VB b σ V nv) : alen Tryd.prog #[84] [nv] = some (.int .i64 V.length) := by
  rcases h with ⟨rfl, rfl⟩ | ⟨q, c, rfl, -⟩
  · exact ln84
  · exact ln84

theorem lsa {σ l : Heap} {n m : Nat} {b : Option Blk} (hn : n < σ.length) (hm : m < σ.length) : look (σ.set n b ++ l) m = if m = n then b else look σ m := by
  rw [look_app_lt (by rw [List.length_set]; exact hm), look_set hn]
theorem ssa {σ l : Heap} {n m : Nat} {b b' : Option Blk} (hm : m < σ.length) : (σ.set n b ++ l).set m b' = (σ.set n b).set m b' ++ l := set_app_lt (by rw [List.length_set]; exact hm)
theorem lss {σ : Heap} {n m k : Nat} {b b' : Option Blk} (hn : n < σ.length) (hm : m < σ.length) : look ((σ.set n b).set m b') k = if k = m then b' else if k = n then b else look σ k := by
  rw [look_set (by rw [List.length_set]; exact hm), look_set hn]
theorem lssa {σ l : Heap} {n m k : Nat} {b b' : Option Blk} (hn : n < σ.length) (hm : m < σ.length) (hk : k < σ.length) : look ((σ.set n b).set m b' ++ l) k = if k = m then b' else if k = n then b else look σ k := by
  rw [look_app_lt (by rw [List.length_set, List.length_set]; exact hk), lss hn hm]
set_option maxHeartbeats 4000000 in
theorem f24_ok (X : Ext) (E : List Nd) (S : List Sy) (n c : Nat) (sv : Value) (ow : Bool) (sz : Nat) (σ : Heap) (hl : look σ n = some ⟨E.flatMap Nd.cells, ow, sz⟩) (hm : SB σ S sv)
    (ht : ∀ x ∈ E, x.name.length ≤ 140737488351232) (hts : ∀ x ∈ S, x.few) (hz : E.length ≤ 140737488351232) (hzs : S.length ≤ 140737488351232) (la : Nat) (hla : la = E.length) :
    CW Tryd.prog X 24 [.slice (some ⟨n, 0, none⟩) la c, sv] σ fun v σ' => v = .tuple #[.agg (valueOf E S).1.cells.toArray, faultV (valueOf E S).2] ∧ σ <+: σ' := by
  subst hla
  refine cw_in Tryd.func24 rfl Tryd.ntmps24 (rs := [.cell 4 40, .cell 5 26]) rfl (by kernel_rfl) (by exact Nat.le_of_ble_eq_true rfl) ?_
  have hn := look_lt hl
  have hel := Nd.len E
  unfold valueOf
  simp only [go_sem, ↓reduceIte, Nat.reduceEqDiff, Nat.reduceAdd, Nat.reduceMul, Nat.reduceLT, Nat.reduceLeDiff, Int.reduceLT, Int.reduceLE, Int.reduceNeg, Int.reduceAdd, Int.reduceSub, Int.reduceMul, Int.reduceToNat, Int.reduceEq, Int.reduceNe, Int.cast_ofNat_Int, Int.natCast_one, Int.natCast_zero, Int.natCast_add, reduceCtorEq]
  refine (f26_ok X E n c ow sz _ ((look_app_lt hn).trans hl) ht E.length rfl hz).mono ?_
  rintro _ _ ⟨rfl, τ, rfl⟩
  by_cases he : (exprFault E).1 = 0
  case neg =>
    have hvf : valFault E S = exprFault E := by rw [valFault, if_neg he]
    rw [hvf, if_pos he]
    simp only [go_sem, ↓reduceIte, Nat.reduceEqDiff, Nat.reduceAdd, Nat.reduceMul, Nat.reduceLT, Nat.reduceLeDiff, Int.reduceLT, Int.reduceLE, Int.reduceNeg, Int.reduceAdd, Int.reduceSub, Int.reduceMul, Int.reduceToNat, Int.reduceEq, Int.reduceNe, Int.cast_ofNat_Int, Int.natCast_one, Int.natCast_zero, Int.natCast_add, reduceCtorEq, faultV, he]
    refine And.intro (quiet_late (by kernel_rfl) [6] [4, 5] (by kernel_rfl) (by kernel_rfl) (by simp [putT, ptrOf])) ?_
    exact ⟨rfl, List.prefix_append _ _⟩
  obtain ⟨he0, he1, he2, he3⟩ := exprFault_zero he
  have hvf : valFault E S = symsFault S := by rw [valFault, if_pos he]
  rw [hvf]
  simp only [go_sem, ↓reduceIte, Nat.reduceEqDiff, Nat.reduceAdd, Nat.reduceMul, Nat.reduceLT, Nat.reduceLeDiff, Int.reduceLT, Int.reduceLE, Int.reduceNeg, Int.reduceAdd, Int.reduceSub, Int.reduceMul, Int.reduceToNat, Int.reduceEq, Int.reduceNe, Int.cast_ofNat_Int, Int.natCast_one, Int.natCast_zero, Int.natCast_add, reduceCtorEq, faultV, he0]
  refine (f52_all X S sv _ (hm.mono (List.prefix_append _ _)) hts hzs).mono ?_
  rintro _ _ ⟨rfl, τ2, rfl⟩
  by_cases hs : (symsFault S).1 = 0
  case neg =>
    rw [if_pos hs]
    simp only [go_sem, ↓reduceIte, Nat.reduceEqDiff, Nat.reduceAdd, Nat.reduceMul, Nat.reduceLT, Nat.reduceLeDiff, Int.reduceLT, Int.reduceLE, Int.reduceNeg, Int.reduceAdd, Int.reduceSub, Int.reduceMul, Int.reduceToNat, Int.reduceEq, Int.reduceNe, Int.cast_ofNat_Int, Int.natCast_one, Int.natCast_zero, Int.natCast_add, reduceCtorEq, faultV, hs]
    refine And.intro (quiet_late (by kernel_rfl) [6] [4, 5] (by kernel_rfl) (by kernel_rfl) (by simp [putT, ptrOf])) ?_
    exact ⟨rfl, List.prefix_append _ _⟩
  obtain ⟨hs0, hs1, hs2⟩ := symsFault_zero hs
  rw [if_neg (by simp [hs])]
  simp only [go_sem, ↓reduceIte, Nat.reduceEqDiff, Nat.reduceAdd, Nat.reduceMul, Nat.reduceLT, Nat.reduceLeDiff, Int.reduceLT, Int.reduceLE, Int.reduceNeg, Int.reduceAdd, Int.reduceSub, Int.reduceMul, Int.reduceToNat, Int.reduceEq, Int.reduceNe, Int.cast_ofNat_Int, Int.natCast_one, Int.natCast_zero, Int.natCast_add, reduceCtorEq, faultV, hs0]
  have hl1 := (look_app_lt (l := some (⟨[.string { data := #[] }, .string { data := #[] }, .int .i64 0], true, 0⟩ : Blk) :: some ⟨[.int .i64 0, .int .i64 0], true, 0⟩ :: (τ ++ some ⟨[.int .i64 0, .int .i64 0], true, 0⟩ :: τ2)) hn).trans hl
  have hm1 : SB (σ ++ some (⟨[.string { data := #[] }, .string { data := #[] }, .int .i64 0], true, 0⟩ : Blk) :: some ⟨[.int .i64 0, .int .i64 0], true, 0⟩ :: (τ ++ some ⟨[.int .i64 0, .int .i64 0], true, 0⟩ :: τ2)) S sv := hm.mono (List.prefix_append _ _)
  have ha4 : look (σ ++ some (⟨[.string { data := #[] }, .string { data := #[] }, .int .i64 0], true, 0⟩ : Blk) :: some ⟨[.int .i64 0, .int .i64 0], true, 0⟩ :: (τ ++ some ⟨[.int .i64 0, .int .i64 0], true, 0⟩ :: τ2)) σ.length = some ⟨[.string { data := #[] }, .string { data := #[] }, .int .i64 0], true, 0⟩ := by rw [look_app_new, look_zero]
  have ha5 : look (σ ++ some (⟨[.string { data := #[] }, .string { data := #[] }, .int .i64 0], true, 0⟩ : Blk) :: some ⟨[.int .i64 0, .int .i64 0], true, 0⟩ :: (τ ++ some ⟨[.int .i64 0, .int .i64 0], true, 0⟩ :: τ2)) (σ.length + 1) = some ⟨[.int .i64 0, .int .i64 0], true, 0⟩ := by rw [look_app_add]; rfl
  have ha6 : look (σ ++ some (⟨[.string { data := #[] }, .string { data := #[] }, .int .i64 0], true, 0⟩ : Blk) :: some ⟨[.int .i64 0, .int .i64 0], true, 0⟩ :: (τ ++ some ⟨[.int .i64 0, .int .i64 0], true, 0⟩ :: τ2)) (σ.length + (τ.length + 1 + 1)) = some ⟨[.int .i64 0, .int .i64 0], true, 0⟩ := by rw [look_app_add, look_succ, look_succ, look_app_new, look_zero]
  have hpre : σ <+: σ ++ some (⟨[.string { data := #[] }, .string { data := #[] }, .int .i64 0], true, 0⟩ : Blk) :: some ⟨[.int .i64 0, .int .i64 0], true, 0⟩ :: (τ ++ some ⟨[.int .i64 0, .int .i64 0], true, 0⟩ :: τ2) := List.prefix_append _ _
  have hne6 : σ.length + (τ.length + 1 + 1) ≠ σ.length ∧ σ.length + (τ.length + 1 + 1) ≠ σ.length + 1 := by omega
  generalize σ.length + (τ.length + 1 + 1) = p6 at *
  generalize σ ++ some (⟨[.string { data := #[] }, .string { data := #[] }, .int .i64 0], true, 0⟩ : Blk) :: some ⟨[.int .i64 0, .int .i64 0], true, 0⟩ :: (τ ++ some ⟨[.int .i64 0, .int .i64 0], true, 0⟩ :: τ2) = σ1 at *
  clear hl hm hn he hs
  refine LW_run (fun k T ρ => ∃ (i : Nat) (V : List Lin) (nv : Value), i + k = E.length ∧ σ1 <+: ρ ∧ T 1 = sv ∧ T 4 = .pointer (some ⟨σ.length, 0, none⟩) ∧ T 5 = .pointer (some ⟨σ.length + 1, 0, none⟩) ∧ T 6 = .pointer (some ⟨p6, 0, none⟩) ∧ T 7 = nv
      ∧ T 24 = .slice (some ⟨n, 0, none⟩) E.length c ∧ T 25 = .int .i64 E.length ∧ T 26 = .int .i64 i ∧ VB σ1.length ρ V nv ∧ V.length = i ∧ (∀ v ∈ V, v.small) ∧ evalL S E [] = evalL S (E.drop i) V) E.length
    ⟨0, [], _, by simp, List.prefix_rfl, rfl, rfl, rfl, rfl, rfl, rfl, rfl, rfl, .inl ⟨rfl, rfl⟩, rfl, by simp, rfl⟩ ?_
  rintro k T ρ ⟨i, V, nv, hk, hp, t1, t4, t5, t6, t7, t24, t25, t26, hV, hVl, hVs, hev⟩
  have hl2 := look_prefix hp hl1
  have hm2 := hm1.mono hp
  have h4 := look_prefix hp ha4
  have h5 := look_prefix hp ha5
  have h6 := look_prefix hp ha6
  have hn2 := look_lt hl2
  have h4l := look_lt h4
  have h5l := look_lt h5
  have h6l := look_lt h6
  have a4l := look_lt ha4
  have a5l := look_lt ha5
  simp only [go_sem, ↓reduceIte, Nat.reduceEqDiff, Nat.reduceAdd, Nat.reduceMul, Nat.reduceLT, Nat.reduceLeDiff, Int.reduceLT, Int.reduceLE, Int.reduceNeg, Int.reduceAdd, Int.reduceSub, Int.reduceMul, Int.reduceToNat, Int.reduceEq, Int.reduceNe, Int.cast_ofNat_Int, Int.natCast_one, Int.natCast_zero, Int.natCast_add, reduceCtorEq, t1, t4, t5, t6, t7, t24, t25, t26]
  refine fork_dec (fun _ => ?_) (fun _ => ?_)
  · rename_i hi
    obtain ⟨x, hx⟩ : ∃ x, E[i]? = some x := ⟨_, List.getElem?_eq_getElem (by omega)⟩
    have hxe := he3 i x hx
    obtain ⟨n1, n2, n3, n4, n5⟩ := nodeErr_zero hxe
    have hw : IntKind.i64.wrap ((i : Int) + 1) = (i : Int) + 1 := wrap64 (by omega)
    rw [drop_at hx, evalL] at hev
    simp only [go_sem, ↓reduceIte, Nat.reduceEqDiff, Nat.reduceAdd, Nat.reduceMul, Nat.reduceLT, Nat.reduceLeDiff, Int.reduceLT, Int.reduceLE, Int.reduceNeg, Int.reduceAdd, Int.reduceSub, Int.reduceMul, Int.reduceToNat, Int.reduceEq, Int.reduceNe, Int.cast_ofNat_Int, Int.natCast_one, Int.natCast_zero, Int.natCast_add, reduceCtorEq, t1, t4, t5, t6, t7, t24, t25, t26, hi, hl2, Nd.take hx, hel, show i * 5 + 5 ≤ E.length * 5 by omega, Nd.cells]
    refine (f53_ok X x V S nv sv _ ((hV.mono (List.prefix_append _ _)).vv) (hm2.mono (List.prefix_append _ _)) (by omega) n1 (fun h => by have := n4 h; omega) (fun h => by have := n5 h; omega) hVs).mono ?_
    rintro _ _ ⟨rfl, τ3, rfl⟩
    by_cases hc : (nodeVal x V S).2 = 0
    · rw [if_neg (by simp [hc])] at hev
      have hns := nodeVal_small hxe hs2 hVs hc
      obtain ⟨nv', ρ', hap, hp', hV'⟩ := app_lin (σ := ρ ++ (some ⟨x.cells, true, 0⟩ :: (τ3 ++ [some ⟨(nodeVal x V S).1.cells, true, 0⟩]))) (hp.trans (List.prefix_append _ _)) (hV.mono (List.prefix_append _ _)) (nodeVal x V S).1 (by omega)
      simp only [Lin.cells, Nd.cells, List.append_assoc, List.cons_append, List.nil_append, List.length_append, List.length_cons, List.length_nil] at hap
      simp only [go_sem, ↓reduceIte, Nat.reduceEqDiff, Nat.reduceAdd, Nat.reduceMul, Nat.reduceLT, Nat.reduceLeDiff, Int.reduceLT, Int.reduceLE, Int.reduceNeg, Int.reduceAdd, Int.reduceSub, Int.reduceMul, Int.reduceToNat, Int.reduceEq, Int.reduceNe, Int.cast_ofNat_Int, Int.natCast_one, Int.natCast_zero, Int.natCast_add, reduceCtorEq, t1, t4, t5, t6, t7, t24, t25, t26, hc, hw, Lin.cells, hap]
      refine ⟨k - 1, by omega, i + 1, V ++ [(nodeVal x V S).1], nv', by omega, hp', ?_⟩
      (repeat' (first | exact rfl | apply And.intro))
      · exact hV'
      · simp [hVl]
      · intro v hv
        rcases List.mem_append.1 hv with hv | hv
        · exact hVs v hv
        · simp at hv; subst hv; exact hns
      · exact hev
    · rw [if_pos hc] at hev
      rw [hev]
      simp only [go_sem, ↓reduceIte, Nat.reduceEqDiff, Nat.reduceAdd, Nat.reduceMul, Nat.reduceLT, Nat.reduceLeDiff, Int.reduceLT, Int.reduceLE, Int.reduceNeg, Int.reduceAdd, Int.reduceSub, Int.reduceMul, Int.reduceToNat, Int.reduceEq, Int.reduceNe, Int.cast_ofNat_Int, Int.natCast_one, Int.natCast_zero, Int.natCast_add, reduceCtorEq, t1, t4, t5, t6, t7, t24, t25, t26, hc, Lin.cells, look_app_lt h4l, h4, set_app_lt h4l, lsa h4l h5l, lsa h4l h4l, ssa h5l, lssa h4l h5l h4l, lssa h4l h5l h5l, h5, show ¬ σ.length + 1 = σ.length by omega, show ¬ σ.length = σ.length + 1 by omega]
      refine ⟨?_, (prefix_set (prefix_set (hpre.trans hp) (Nat.le_refl _)) (by omega)).trans (List.prefix_append _ _)⟩
      rw [hVl]
      rfl
  · rename_i hi
    have hii : i = E.length := by omega
    subst hii
    rw [List.drop_eq_nil_of_le (Nat.le_refl _), evalL] at hev
    rw [hev]
    obtain ⟨w, hw⟩ : ∃ w, V[V.length - 1]? = some w := ⟨_, List.getElem?_eq_getElem (by omega)⟩
    have hlast : V.getLast? = some w := by rw [List.getLast?_eq_getElem?]; exact hw
    rcases hV with ⟨rfl, _⟩ | ⟨q, cq, rfl, hq1, hq2, hq3⟩
    · simp at hw
    have hvl := Lin.len V
    have hql := look_lt hq3
    have hw1 : IntKind.i64.wrap ((V.length : Int) - 1) = ((V.length - 1 : Nat) : Int) := by rw [wrap64 (by omega)]; omega
    have hq4 : q ≠ σ.length ∧ q ≠ σ.length + 1 ∧ q ≠ p6 := by have := look_lt ha6; omega
    have hV1 : ((V.length - 1 : Nat) : Int) < (V.length : Int) := by omega
    have hV3 : (V.length - 1) * 3 + 3 ≤ V.length * 3 := by omega
    have htk := Lin.take hw
    generalize V.length - 1 = v1 at *
    simp only [go_sem, ↓reduceIte, Nat.reduceEqDiff, Nat.reduceAdd, Nat.reduceMul, Nat.reduceLT, Nat.reduceLeDiff, Int.reduceLT, Int.reduceLE, Int.reduceNeg, Int.reduceAdd, Int.reduceSub, Int.reduceMul, Int.reduceToNat, Int.reduceEq, Int.reduceNe, Int.cast_ofNat_Int, Int.natCast_one, Int.natCast_zero, Int.natCast_add, reduceCtorEq, t1, t4, t5, t6, t7, t24, t25, t26, hi, hw1, hV1, hq3, htk, hvl, hV3, h6, Lin.cells, h4, hlast, Option.getD_some]
    refine And.intro (quiet_late (by kernel_rfl) [6] [4, 5] (by kernel_rfl) (by kernel_rfl) (by simp [putT, ptrOf, t4, t5, t6]; omega)) ?_
    simp only [go_sem, ↓reduceIte, Nat.reduceEqDiff, Nat.reduceAdd, Nat.reduceMul, Nat.reduceLT, Nat.reduceLeDiff, Int.reduceLT, Int.reduceLE, Int.reduceNeg, Int.reduceAdd, Int.reduceSub, Int.reduceMul, Int.reduceToNat, Int.reduceEq, Int.reduceNe, Int.cast_ofNat_Int, Int.natCast_one, Int.natCast_zero, Int.natCast_add, reduceCtorEq, look_set h4l, h5, show ¬ σ.length + 1 = σ.length by omega]
    refine And.intro (quiet_late (by kernel_rfl) [6] [4, 5] (by kernel_rfl) (by kernel_rfl) (by simp [putT, ptrOf, t4, t5, t6]; omega)) ?_
    have h4r : σ.length < (ρ.set σ.length (some ⟨[.string (str w.sym), .string (str w.minus), .int .i64 w.num], true, 0⟩)).length := by simpa using h4l
    have h5r : σ.length + 1 < (ρ.set σ.length (some ⟨[.string (str w.sym), .string (str w.minus), .int .i64 w.num], true, 0⟩)).length := by simpa using h5l
    simp only [go_sem, ↓reduceIte, Nat.reduceEqDiff, Nat.reduceAdd, Nat.reduceMul, Nat.reduceLT, Nat.reduceLeDiff, Int.reduceLT, Int.reduceLE, Int.reduceNeg, Int.reduceAdd, Int.reduceSub, Int.reduceMul, Int.reduceToNat, Int.reduceEq, Int.reduceNe, Int.cast_ofNat_Int, Int.natCast_one, Int.natCast_zero, Int.natCast_add, reduceCtorEq, t4, t5, look_set h5r, look_set h4l, show ¬ σ.length = σ.length + 1 by omega]
    (repeat' (first | exact rfl | apply And.intro))
    exact prefix_set (prefix_set (hpre.trans hp) (Nat.le_refl _)) (show σ.length ≤ σ.length + 1 by omega)
end Go.Proofs.YtkgdkommahgakaaDoor.Abs
