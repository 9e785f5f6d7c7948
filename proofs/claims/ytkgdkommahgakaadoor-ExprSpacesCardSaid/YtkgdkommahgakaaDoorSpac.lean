/- The plain law of parentheses and of two signs of negation. -/
import Derived.Test.YtkgdkommahgakaaDoorSubs
import Derived.Test.YtkgdkommahgakaaDoorNod2
namespace Go.Proofs.YtkgdkommahgakaaDoor.Gram
set_option linter.unusedVariables false
variable {N : Type}
theorem no_cand {pre l : List (Cl N)} (hpre : ∀ c ∈ pre, c.par = 0 ∧ c.ends = false) (hD : ∀ p q, l = p ++ q → 0 ≤ net p) (p : List (Cl N)) (c : Cl N) (q : List (Cl N)) : ¬ Cand (pre ++ Cl.lp :: (l ++ [.rp])) p c q := by
  rintro ⟨h1, h2, h3, h4⟩
  have hnp : net pre = 0 := by
    clear h1
    induction pre with
    | nil => rfl
    | cons x pre ih => rw [net, (hpre x (by simp)).1, ih fun c hc => hpre c (by simp [hc])]; rfl
  rcases List.append_eq_append_iff.1 h1 with ⟨a, ha, hb⟩ | ⟨a, ha, hb⟩
  · subst ha
    cases a with
    | nil =>
      simp only [List.nil_append, List.cons.injEq] at hb
      rw [← hb.1] at h4
      simp [Cl.lvl] at h4
    | cons x a =>
      simp only [List.cons_append, List.cons.injEq] at hb
      obtain ⟨rfl, hb⟩ := hb
      rw [net_append, net, hnp] at h2
      rcases List.append_eq_append_iff.1 hb with ⟨a2, ha2, hb2⟩ | ⟨a2, ha2, hb2⟩
      · cases a2 with
        | nil =>
          simp only [List.nil_append, List.cons.injEq] at hb2
          rw [← hb2.1] at h4
          simp [Cl.lvl] at h4
        | cons y a2 =>
          have := congrArg List.length hb2
          simp at this
      · have := hD a a2 ha2
        simp only [Cl.par, Cl.isL, if_true] at h2
        omega
  · have hne := lastEnds_ne h3
    unfold lastEnds at h3
    obtain ⟨z, hz⟩ : ∃ z, p.getLast? = some z := by
      cases hg : p.getLast? with
      | none => exact absurd (List.getLast?_eq_none_iff.1 hg) hne
      | some z => exact ⟨z, rfl⟩
    rw [hz] at h3
    simp only at h3
    have := (hpre z (by rw [ha]; exact List.mem_append_left _ (List.mem_of_getLast? hz))).2
    rw [h3] at this
    simp at this
theorem scan_no {l : List (Cl N)} (h : ∀ p c q, ¬ Cand l p c q) : scan l 0 0 false none = none := by
  cases hs : scan l 0 0 false none with
  | none => rfl
  | some b =>
    obtain ⟨b, m⟩ := b
    obtain ⟨p, c, q, hC, _⟩ := scan_some hs
    exact absurd hC (h p c q)
theorem nd_group {F d k e : Nat} {l : List (Cl N)} {t0 t : Tr N} (hD : Der k e l t0) (h : nd (F + 1) d (.lp :: (l ++ [.rp])) = some t) : nd F (d + 1) l = some t := by
  have hs := scan_no (no_cand (pre := []) (by simp) hD.net.2.2)
  rw [List.nil_append] at hs
  unfold nd at h
  rw [hs] at h
  split at h
  · simp at h
  · have hl := hD.ne
    simp only [Cl.un, Cl.isL] at h
    rw [if_pos (by simp [Cl.isR, hl]), List.dropLast_concat] at h
    exact h
theorem nd_sign {F d k e : Nat} {c : Cl N} {pre l : List (Cl N)} {u : Int} {t0 t : Tr N} (hc : c.un = some u) (hpre : ∀ c ∈ pre, c.par = 0 ∧ c.ends = false) (hD : Der k e l t0) (h : nd (F + 1) d (c :: (pre ++ .lp :: (l ++ [.rp]))) = some t) :
    ∃ t1, nd F (d + 1) (pre ++ .lp :: (l ++ [.rp])) = some t1 ∧ t = .un u t1 := by
  unfold nd at h
  have hs := scan_no (no_cand (pre := c :: pre) (fun x hx => by
    rcases List.mem_cons.1 hx with rfl | hx
    · exact un_par hc
    · exact hpre x hx) hD.net.2.2)
  rw [List.cons_append] at hs
  rw [hs] at h
  split at h
  · simp at h
  · simp only [hc] at h
    split at h
    · simp at h
    · rename_i t1 h1
      exact ⟨t1, h1, (Option.some.inj h).symm⟩
theorem nd_same {F G d e : Nat} {l : List (Cl N)} {t t' : Tr N} (hok : ∀ c ∈ l, c.ok) (h : nd F d l = some t) (h' : nd G e l = some t') : t = t' := by
  have h1 := nd_sound F d l t hok h
  have h2 := nd_sound G e l t' hok h'
  exact nd_depth hok (nd_complete (l.length + 1) h1.1 h1.2 (by omega)) (nd_complete (l.length + 1) h2.1 h2.2 (by omega))
end Go.Proofs.YtkgdkommahgakaaDoor.Gram
namespace Go.Proofs.YtkgdkommahgakaaDoor.Abs
open Go Go.RowKit Gram
set_option linter.unusedVariables false
set_option linter.unusedSimpArgs false
set_option maxRecDepth 100000

def tkS (s : List UInt8) : Tk := ⟨3, s, 0, 0⟩
theorem cls_open : cls (tkS [40]) = .lp := by simp [cls, tkS]
theorem cls_shut : cls (tkS [41]) = .rp := by simp [cls, tkS]
theorem cls_neg : (cls (tkS [45])).un = some 3 := by
  rw [cls_minus rfl rfl]
  rfl
theorem toks_ok (L : List Tk) : ∀ c ∈ L.map cls, c.ok := fun c hc => by
  obtain ⟨x, _, rfl⟩ := List.mem_map.1 hc
  exact cls_ok x
theorem par_nodes {L : List Tk} {t t2 : Tr Nd} (h : nodesOf L = some t) (h2 : nodesOf (tkS [40] :: (L ++ [tkS [41]])) = some t2) : t2 = t := by
  unfold nodesOf at h h2
  rw [List.map_cons, List.map_append, List.map_cons, List.map_nil, cls_open, cls_shut] at h2
  exact nd_same (toks_ok L) (nd_group (nd_sound _ _ _ _ (toks_ok L) h).1 h2) h
theorem neg_nodes {L : List Tk} {t t3 : Tr Nd} (h : nodesOf L = some t) (h3 : nodesOf (tkS [45] :: tkS [45] :: tkS [40] :: (L ++ [tkS [41]])) = some t3) : t3 = .un 3 (.un 3 t) := by
  have hD := (nd_sound _ _ _ _ (toks_ok L) h).1
  unfold nodesOf at h h3
  rw [List.map_cons, List.map_cons, List.map_cons, List.map_append, List.map_cons, List.map_nil, cls_open, cls_shut] at h3
  obtain ⟨t1, h4, rfl⟩ := nd_sign (pre := [cls (tkS [45])]) cls_neg (fun c hc => by rw [List.mem_singleton.1 hc]; exact un_par cls_neg) hD h3
  obtain ⟨t2, h5, rfl⟩ := nd_sign (pre := []) cls_neg (by simp) hD h4
  rw [nd_same (toks_ok L) (nd_group hD h5) h]

theorem node_good {x : Nd} {V : List Lin} {S : List Sy} (hS : ∀ y ∈ S, symErr y = 0) (hV : ∀ v ∈ V, v.good) (h : (nodeVal x V S).2 = 0) : (nodeVal x V S).1.good := by
  have gA : ∀ i : Nat, (V.getD i Lin.zero).good := fun i => by
    rw [List.getD_eq_getElem?_getD]
    cases hh : V[i]? with
    | none => exact zero_good
    | some v => exact hV v (List.mem_of_getElem? hh)
  have hc := codeOf_ok h
  have add : ∀ {a b : Lin} {s : Int}, (s = 1 ∨ s = -1) → (addL a b s).isSome = true → ((addL a b s).getD Lin.zero).good := by
    intro a b s hs h
    obtain ⟨r, hr⟩ := Option.isSome_iff_exists.1 h
    rw [hr, Option.getD_some]
    exact (addL_coef hs hr).2.1
  simp only [nodeVal] at *
  unfold rawVal at *
  clear h
  by_cases k1 : x.kind = 1
  · rw [if_pos k1]; exact flat_good
  rw [if_neg k1] at hc ⊢
  by_cases k2 : x.kind = 2
  · rw [if_pos k2]
    simp only
    split
    · cases hh : S[(idx (S.map (·.name)) x.name).toNat]? with
      | none => exact zero_good
      | some y => exact (symErr_zero (hS y (List.mem_of_getElem? hh))).2.2
    · exact fun he => he
  rw [if_neg k2] at hc ⊢
  by_cases k3 : x.kind = 3
  · rw [if_pos k3] at hc ⊢; exact add (.inr rfl) hc
  rw [if_neg k3] at hc ⊢
  by_cases k5 : x.kind = 5
  · rw [if_pos k5] at hc ⊢; exact add (.inl rfl) hc
  rw [if_neg k5] at hc ⊢
  by_cases k6 : x.kind = 6
  · rw [if_pos k6] at hc ⊢; exact add (.inr rfl) hc
  rw [if_neg k6] at hc ⊢
  by_cases k4 : x.kind = 4
  · rw [if_pos k4]; exact flat_good
  rw [if_neg k4] at hc ⊢
  split
  · exact flat_good
  · exact zero_good
theorem eval_good {S : List Sy} (hS : ∀ y ∈ S, symErr y = 0) : ∀ (l : List Nd) (V A : List Lin), (∀ v ∈ V, v.good) → evalL S l V = .inr A → ∀ v ∈ A, v.good
  | [], V, A, hV, h => by
    simp only [evalL, Sum.inr.injEq] at h
    subst h
    exact hV
  | x :: l, V, A, hV, h => by
    unfold evalL at h
    split at h
    · simp at h
    · rename_i hz
      refine eval_good hS l _ A (fun v hv => ?_) h
      rcases List.mem_append.1 hv with hv | hv
      · exact hV v hv
      · simp at hv; subst hv; exact node_good hS hV (Decidable.not_not.1 hz)
theorem firstE_all : ∀ (l : List Nd) (i : Nat), (∀ (j : Nat) x, l[j]? = some x → nodeErr x (i + j) = 0) → firstE i l = (0, 0)
  | [], i, _ => rfl
  | x :: l, i, h => by
    unfold firstE
    have h0 := h 0 x rfl
    rw [Nat.add_zero] at h0
    rw [if_neg (by simp [h0])]
    exact firstE_all l (i + 1) fun j y hy => by have := h (j + 1) y (by simpa using hy); rwa [show i + 1 + j = i + (j + 1) by omega]
theorem evalL_append {S : List Sy} : ∀ (l m : List Nd) (V A : List Lin), evalL S l V = .inr A → evalL S (l ++ m) V = evalL S m A
  | [], m, V, A, h => by
    simp only [evalL, Sum.inr.injEq] at h
    subst h; rfl
  | x :: l, m, V, A, h => by
    rw [List.cons_append, evalL]
    rw [evalL] at h
    split at h
    · simp at h
    · rename_i hz
      rw [if_neg hz]
      exact evalL_append l m _ A h
theorem neg_add {w : Lin} (hg : w.good) : addL Lin.zero w (-1) = some ⟨w.minus, w.sym, -w.num⟩ := by
  unfold addL turn sumL cancel Lin.zero
  by_cases h1 : w.minus = []
  · simp [h1]
  · have h2 : ¬ w.sym = w.minus := fun he => h1 (by rw [← he]; exact hg he)
    simp [h1, h2, Ne.symm h1]
theorem neg_val {V : List Lin} {S : List Sy} {w : Lin} (hg : w.good) (hs : w.small) {i : Nat} (hw : V[i]? = some w) : nodeVal ⟨3, 0, [], i, 0⟩ V S = (⟨w.minus, w.sym, -w.num⟩, 0) := by
  have ha : argA ⟨3, 0, [], i, 0⟩ V = w := by
    unfold argA
    rw [if_pos (by simp), Int.toNat_natCast, List.getD_eq_getElem?_getD, hw]
    rfl
  unfold nodeVal rawVal
  rw [ha, neg_add hg]
  obtain ⟨_, _, s3, s4⟩ := hs
  simp [codeOf]
  omega
theorem neg_neg {E : List Nd} {S : List Sy} (h : (valueOf E S).2.1 = 0) (hl : E.length + 2 ≤ 60) : valueOf (E ++ [⟨3, 0, [], (E.length : Int) - 1, 0⟩, ⟨3, 0, [], E.length, 0⟩]) S = valueOf E S := by
  obtain ⟨k1, k2, k3, k4, k5, hS, A, w, e1, e2, e3, e4⟩ := valueOf_ok h
  have hgw := eval_good hS E [] A (by simp) e1 w e3
  have hsw := eval_small hS E [] A k5 (by simp) e1 w e3
  have hA := evalL_len E [] A e1
  simp only [List.length_nil, Nat.zero_add] at hA
  have hx : exprFault (E ++ [⟨3, 0, [], (E.length : Int) - 1, 0⟩, ⟨3, 0, [], E.length, 0⟩]) = (0, 0) := by
    rw [exprFault, if_neg (by simp; omega)]
    refine firstE_all _ 0 fun j x hj => ?_
    rw [Nat.zero_add]
    by_cases hjl : j < E.length
    · rw [List.getElem?_append_left hjl] at hj
      exact ((exprFault_zero (by rw [k1])).2.2.2) j x hj
    · rw [List.getElem?_append_right (by omega)] at hj
      by_cases h0 : j - E.length = 0
      · rw [h0] at hj
        simp only [List.getElem?_cons_zero, Option.some.injEq] at hj
        subst hj
        unfold nodeErr
        simp
        omega
      · by_cases h1 : j - E.length = 1
        · rw [h1] at hj
          simp only [List.getElem?_cons_succ, List.getElem?_cons_zero, Option.some.injEq] at hj
          subst hj
          unfold nodeErr
          simp
          omega
        · rw [List.getElem?_eq_none (by simp; omega)] at hj
          simp at hj
  have hv : valFault (E ++ [⟨3, 0, [], (E.length : Int) - 1, 0⟩, ⟨3, 0, [], E.length, 0⟩]) S = (0, 0) := by
    rw [valFault, hx, if_pos rfl, k2]
  have hw1 : A[E.length - 1]? = some w := by rw [← hA, ← List.getLast?_eq_getElem?]; exact e2
  have ne : ((E.length : Int) - 1) = ((E.length - 1 : Nat) : Int) := by omega
  have n1 := neg_val (V := A) (S := S) hgw hsw hw1
  have hsw2 : (⟨w.minus, w.sym, -w.num⟩ : Lin).small := ⟨hsw.2.1, hsw.1, by have := hsw.2.2.2; simp only; omega, by have := hsw.2.2.1; simp only; omega⟩
  have hgw2 : (⟨w.minus, w.sym, -w.num⟩ : Lin).good := fun he => by
    simp only at he ⊢
    rw [he]
    exact hgw he.symm
  have n2 := neg_val (V := A ++ [⟨w.minus, w.sym, -w.num⟩]) (S := S) hgw2 hsw2 (i := E.length) (by rw [List.getElem?_append_right (by omega)]; simp [hA])
  rw [valueOf, hv, if_neg (by simp), evalL_append E _ [] A e1, evalL, ne, n1]
  simp only [ne_eq, not_true_eq_false, if_false]
  rw [evalL, n2]
  simp only [ne_eq, not_true_eq_false, if_false, evalL, e4]
  simp
/-- **Parentheses, and two signs of negation.** -/
theorem spaces_par {L : List Tk} {t t2 : Tr Nd} (h : parseOf L = some t) (h2 : parseOf (tkS [40] :: (L ++ [tkS [41]])) = some t2) : t2 = t := par_nodes ((parse_nodes _ _).1 h).1 ((parse_nodes _ _).1 h2).1
theorem spaces_neg {L : List Tk} {t t3 : Tr Nd} {S : List Sy} (h : parseOf L = some t) (h3 : parseOf (tkS [45] :: tkS [45] :: tkS [40] :: (L ++ [tkS [41]])) = some t3) (hv : (valueOf (post t []) S).2.1 = 0) : valueOf (post t3 []) S = valueOf (post t []) S := by
  obtain ⟨h4, h5⟩ := (parse_nodes _ _).1 h3
  obtain rfl := neg_nodes ((parse_nodes _ _).1 h).1 h4
  have hl := post_len t []
  simp only [List.length_nil, Nat.zero_add] at hl
  have e : post (.un 3 (.un 3 t)) [] = post t [] ++ [⟨3, 0, [], ((post t []).length : Int) - 1, 0⟩, ⟨3, 0, [], (post t []).length, 0⟩] := by
    simp only [post, List.append_assoc, List.cons_append, List.nil_append, List.length_append, List.length_cons, List.length_nil]
    simp
  rw [e]
  simp only [Tr.size] at h5
  exact neg_neg hv (by rw [hl]; omega)
end Go.Proofs.YtkgdkommahgakaaDoor.Abs
