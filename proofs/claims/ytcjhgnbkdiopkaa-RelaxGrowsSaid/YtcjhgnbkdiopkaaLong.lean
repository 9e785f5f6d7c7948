import Derived.Test.YtcjhgnbkdiopkaaRelx
namespace Go.Proofs.Ytcjhgnbkdiopkaa.Abs
open Go Go.RowKit
set_option linter.unusedVariables false
set_option linter.unusedSimpArgs false
set_option maxRecDepth 100000

/-- How far a branch's target is from its end. -/
def dist (L : List Frag) (A : List Bool) (x : Frag) (i : Nat) : Int := (offsTo L A x.target.toNat).2 + x.add - (offsTo L A (i + 1)).2
def far (L : List Frag) (A : List Bool) (x : Frag) (i : Nat) : Bool := decide (dist L A x i < -128) || decide (127 < dist L A x i)
/-- One round, begun. -/
def stepTo (L : List Frag) (A : List Bool) : Nat → List Bool
  | 0 => A
  | i + 1 => match L[i]? with
    | some x => if x.kind = 3 then (stepTo L A i).set i (A.getD i false || far L A x i) else stepTo L A i
    | none => stepTo L A i
theorem stepTo_len (L : List Frag) (A : List Bool) : ∀ i, (stepTo L A i).length = A.length
  | 0 => rfl
  | i + 1 => by
    unfold stepTo
    split
    · split
      · rw [List.length_set]; exact stepTo_len L A i
      · exact stepTo_len L A i
    · exact stepTo_len L A i
theorem stepTo_later (L : List Frag) (A : List Bool) : ∀ i j, i ≤ j → (stepTo L A i)[j]? = A[j]?
  | 0, _, _ => rfl
  | i + 1, j, h => by
    unfold stepTo
    split
    · split
      · rw [List.getElem?_set, if_neg (by omega)]; exact stepTo_later L A i j (by omega)
      · exact stepTo_later L A i j (by omega)
    · exact stepTo_later L A i j (by omega)
/-- What a valid branch is. -/
theorem fragErr_branch {x : Frag} {N : Int} (h : fragErr x N = 0) (hk : x.kind = 3) : 0 ≤ x.target ∧ x.target ≤ N ∧ -1500 ≤ x.add ∧ x.add ≤ 1500 := by
  unfold fragErr at h
  repeat' split at h
  all_goals omega
theorem prefix_set {σ ρ : Heap} {p : Nat} {b : Option Blk} (h : σ <+: ρ) (hp : σ.length ≤ p) : σ <+: ρ.set p b := by
  obtain ⟨τ, rfl⟩ := h
  rw [List.set_append_right _ _ hp]
  exact List.prefix_append _ _

/-- Distance, for a valid branch. -/
theorem f25_dist (X : Ext) (L : List Frag) (A : List Bool) (i : Nat) (x : Frag) (n c m d len : Nat) (ow ow' : Bool) (sz sz' : Nat) (σ : Heap) (hl : look σ n = some ⟨L.flatMap Frag.cells, ow, sz⟩) (hb : look σ m = some ⟨(offsTo L A L.length).1.map (.int .i64), ow', sz'⟩)
    (hlen : len = L.length + 1) (hx : L[i]? = some x) (hk : x.kind = 3) (hL : ∀ x ∈ L, x.fine) (hV : fragErr x L.length = 0) (h4 : L.length ≤ 400) :
    CW Try.prog X 25 [.slice (some ⟨n, 0, none⟩) L.length c, .slice (some ⟨m, 0, none⟩) len d, .int .i64 i] σ fun v σ' => v = .int .i64 (dist L A x i) ∧ σ <+: σ' := by
  have hi : i < L.length := (List.getElem?_eq_some_iff.1 hx).1
  obtain ⟨b1, b2, b3, b4⟩ := fragErr_branch hV hk
  have e1 := offsTo_bound L A hL x.target.toNat
  have e2 := offsTo_bound L A hL (i + 1)
  refine f25_ok X L _ i x x.target.toNat (offsTo L A x.target.toNat).2 (offsTo L A (i + 1)).2 n c m d len ow ow' sz sz' σ hl hb (by rw [hlen, offsTo_len L A _ (Nat.le_refl _)]) (by omega) hx (by omega)
    (offsTo_get L A _ _ (by omega) (Nat.le_refl _)) (offsTo_get L A _ _ (by omega) (Nat.le_refl _)) ?_ ?_ ?_ <;> omega
theorem dist_bound {L : List Frag} {A : List Bool} {x : Frag} {i : Nat} (hi : i < L.length) (hk : x.kind = 3) (hL : ∀ x ∈ L, x.fine) (hV : fragErr x L.length = 0) (h4 : L.length ≤ 400) : -1000000 ≤ dist L A x i ∧ dist L A x i ≤ 1000000 := by
  obtain ⟨b1, b2, b3, b4⟩ := fragErr_branch hV hk
  have e1 := offsTo_bound L A hL x.target.toNat
  have e2 := offsTo_bound L A hL (i + 1)
  unfold dist
  omega

theorem f27_pre (X : Ext) (A : List Bool) (n c la : Nat) (ow : Bool) (sz : Nat) (σ : Heap) (ha : look σ n = some ⟨A.map .bool, ow, sz⟩) (hla : la = A.length) (hc : la = 0 → c = 0) (hA : A.length ≤ 1000000) :
    CW Try.prog X 27 [.slice (some ⟨n, 0, none⟩) la c] σ fun v σ' => ∃ p c', v = .slice (some ⟨p, 0, none⟩) la c' ∧ σ.length ≤ p ∧ σ <+: σ' ∧ look σ' p = some ⟨A.map .bool, true, 1⟩ := by
  refine (f27_ok X A n c la ow sz σ ha hla hc hA).mono ?_
  rintro _ _ ⟨q, c', τ, rfl, rfl, h⟩
  exact ⟨_, c', rfl, Nat.le_add_right _ _, List.prefix_append _ _, by rw [look_app_add]; exact h⟩
def startF (L : List Frag) : List Bool := List.replicate L.length false
def iter (L : List Frag) : Nat → List Bool
  | 0 => startF L
  | m + 1 => stepTo L (iter L m) L.length
theorem iter_len (L : List Frag) : ∀ m, (iter L m).length = L.length
  | 0 => by simp [iter, startF]
  | m + 1 => by rw [iter, stepTo_len]; exact iter_len L m
theorem iter_fix {L : List Frag} {m : Nat} (h : iter L (m + 1) = iter L m) : ∀ j, iter L (m + j) = iter L m
  | 0 => rfl
  | j + 1 => by
    rw [show m + (j + 1) = (m + j) + 1 by omega, iter, iter_fix h j]
    exact h
theorem iter_unique {L : List Frag} {m m' : Nat} (h : iter L (m + 1) = iter L m) (h' : iter L (m' + 1) = iter L m') : iter L m = iter L m' := by
  rcases Nat.le_total m m' with hh | hh
  · have := iter_fix h (m' - m)
    rw [show m + (m' - m) = m' by omega] at this
    exact this.symm
  · have := iter_fix h' (m - m')
    rw [show m' + (m - m') = m by omega] at this
    exact this
/-- Flags that are not set. -/
def lows (A : List Bool) : Nat := A.countP (!·)
theorem lows_set (A : List Bool) (i : Nat) (b : Bool) (h : A[i]? = some false) : lows (A.set i b) = if b = true then lows A - 1 else lows A := by
  unfold lows
  have hi := (List.getElem?_eq_some_iff.1 h).1
  have hv := (List.getElem?_eq_some_iff.1 h).2
  rw [List.countP_set hi, hv]
  have : 0 < A.countP (!·) := List.countP_pos_iff.2 ⟨false, List.mem_of_getElem? h, rfl⟩
  cases b <;> simp <;> omega
theorem set_same {A : List Bool} {i : Nat} {b : Bool} (h : A[i]? = some b) : A.set i b = A := by
  apply List.ext_getElem?
  intro j
  rw [List.getElem?_set]
  split
  · rename_i hij
    subst hij
    have := (List.getElem?_eq_some_iff.1 h).1
    rw [if_pos this, h]
  · rfl
theorem stepTo_lows (L : List Frag) (A : List Bool) : ∀ i, i ≤ A.length → stepTo L A i = A ∨ lows (stepTo L A i) < lows A
  | 0, _ => .inl rfl
  | i + 1, hi => by
    unfold stepTo
    have ih := stepTo_lows L A i (by omega)
    split
    · rename_i x hx
      split
      · have hl := stepTo_later L A i i (Nat.le_refl _)
        obtain ⟨b, hb⟩ : ∃ b, A[i]? = some b := ⟨_, List.getElem?_eq_getElem (by omega)⟩
        have hg : A.getD i false = b := by simp [hb]
        rw [hg]
        cases b with
        | true =>
          rw [Bool.true_or, set_same (hl.trans hb)]
          exact ih
        | false =>
          rw [Bool.false_or]
          cases hf : far L A x i with
          | false => rw [set_same (hl.trans hb)]; exact ih
          | true =>
            right
            have h1 := lows_set (stepTo L A i) i true (hl.trans hb)
            rw [if_pos rfl] at h1
            have h2 : 0 < lows (stepTo L A i) := List.countP_pos_iff.2 ⟨false, List.mem_of_getElem? (hl.trans hb), rfl⟩
            rcases ih with e | e
            · rw [e] at h1 h2 ⊢; omega
            · omega
      · exact ih
    · exact ih
end Go.Proofs.Ytcjhgnbkdiopkaa.Abs
