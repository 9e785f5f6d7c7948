/- The abstract machine: a region whose order is drawn: the proof that the text's order serves every order. -/
import Derived.Test.YtkgdkommahgakaaDoorAbs10
namespace Go.Proofs.YtkgdkommahgakaaDoor.Abs
open Go Go.RowKit
set_option linter.unusedVariables false
set_option linter.unusedSimpArgs false

/-- A load whose block nothing in the region touches, ahead of all that turns memory. -/
def Steady (P : Program) (base : Nat) (ops : Array Oper) (τ : Nat → Tm) (η : Nat → Heap) (i : Nat) (o : Oper) : Prop :=
  η (i + 1) = η i ∧ (∀ j, j < i → η j <+: η (j + 1)) ∧ ∃ v, τ (i + 1) = putT (τ i) o.dst v ∧ ∀ j, i ≤ j → j ≤ ops.size → OpSound P base o (τ i) (η j) v (η j)
/-- An operation that does nothing to memory and looks at none, here. -/
def FreeAt (P : Program) (base : Nat) (ops : Array Oper) (τ : Nat → Tm) (η : Nat → Heap) (i : Nat) : Prop :=
  ∃ o, ops[i]? = some o ∧ (awanted ops (τ i) o = some false ∨ heapFree o.op = true ∨ Steady P base ops τ η i o)
/-- All that looks at memory waits for it, or it waits for that. -/
def LoudFine (P : Program) (base : Nat) (ops : Array Oper) (τ : Nat → Tm) (η : Nat → Heap) (e : Nat) : Prop :=
  ∀ i o, ops[i]? = some o → i ≠ e → FreeAt P base ops τ η i ∨ (i < e ∧ befB ops e i = true) ∨ (e < i ∧ befB ops i e = true)
/-- A region's walk in the text's order: frames and heaps, operation by operation. -/
structure Trace (P : Program) (base N : Nat) (ops : Array Oper) (τ : Nat → Tm) (η : Nat → Heap) : Prop where
  step : ∀ i o, ops[i]? = some o → (awanted ops (τ i) o = some false ∧ τ (i + 1) = putT (τ i) o.dst undef ∧ η (i + 1) = η i) ∨
    (awanted ops (τ i) o = some true ∧ ∃ v, τ (i + 1) = putT (τ i) o.dst v ∧ OpSound P base o (τ i) (η i) v (η (i + 1)) ∧ (η i).length ≤ (η (i + 1)).length ∧
      ((heapFree o.op = true ∧ η (i + 1) = η i ∧ ∀ σ1, OpSound P base o (τ i) σ1 v σ1) ∨ (heapFree o.op = false ∧ (η i <+: η (i + 1) ∨ LoudFine P base ops τ η i))))

def LoudAt (P : Program) (base : Nat) (ops : Array Oper) (τ : Nat → Tm) (η : Nat → Heap) (i : Nat) : Prop :=
  i < ops.size ∧ ¬ FreeAt P base ops τ η i ∧ ¬ (η i <+: η (i + 1))

section
variable {P : Program} {base N : Nat} {ops : Array Oper} {τ : Nat → Tm} {η : Nat → Heap}

theorem free_same (tr : Trace P base N ops τ η) {i : Nat} (h : FreeAt P base ops τ η i) : η (i + 1) = η i := by
  obtain ⟨o, ho, h⟩ := h
  rcases tr.step i o ho with ⟨_, _, h1⟩ | ⟨hw, v, _, _, _, h1⟩
  · exact h1
  · rcases h1 with ⟨_, h1, _⟩ | ⟨h0, _⟩
    · exact h1
    · rcases h with h | h | h
      · rw [hw] at h; simp at h
      · rw [h] at h0; simp at h0
      · exact h.1
theorem loud_ok (tr : Trace P base N ops τ η) {i : Nat} (h : LoudAt P base ops τ η i) : LoudFine P base ops τ η i := by
  obtain ⟨h1, h2, h3⟩ := h
  obtain ⟨o, ho⟩ : ∃ o, ops[i]? = some o := ⟨_, Array.getElem?_eq_getElem h1⟩
  rcases tr.step i o ho with ⟨hw, _, _⟩ | ⟨hw, v, _, _, _, h4⟩
  · exact absurd ⟨o, ho, .inl hw⟩ h2
  · rcases h4 with ⟨h4, _⟩ | ⟨_, h4 | h4⟩
    · exact absurd ⟨o, ho, .inr (.inl h4)⟩ h2
    · exact absurd h4 h3
    · exact h4
/-- Between two places without a loud operation the heap only gets longer. -/
theorem calm (tr : Trace P base N ops τ η) {j : Nat} : ∀ (d : Nat), j + d ≤ ops.size → (∀ i, j ≤ i → i < j + d → ¬ LoudAt P base ops τ η i) → η j <+: η (j + d)
  | 0, _, _ => List.prefix_refl _
  | d + 1, h1, h2 => by
    have h3 := calm tr d (by omega) fun i ha hb => h2 i ha (by omega)
    refine h3.trans ?_
    by_cases hf : FreeAt P base ops τ η (j + d)
    · rw [show j + (d + 1) = j + d + 1 by omega, free_same tr hf]
      exact List.prefix_refl _
    · by_cases hp : η (j + d) <+: η (j + d + 1)
      · exact hp
      · exact absurd ⟨by omega, hf, hp⟩ (h2 (j + d) (by omega) (by omega))
/-- The next loud operation, or the end. -/
theorem next_loud : ∀ (d i : Nat), i + d = ops.size → ∃ l, i ≤ l ∧ l ≤ ops.size ∧ (∀ j, i ≤ j → j < l → ¬ LoudAt P base ops τ η j) ∧ (l = ops.size ∨ LoudAt P base ops τ η l)
  | 0, i, h => ⟨i, Nat.le_refl _, by omega, fun j h1 h2 => by omega, .inl (by omega)⟩
  | d + 1, i, h => by
    by_cases hl : LoudAt P base ops τ η i
    · exact ⟨i, Nat.le_refl _, by omega, fun j h1 h2 => by omega, .inr hl⟩
    · obtain ⟨l, h1, h2, h3, h4⟩ := next_loud d (i + 1) (by omega)
      refine ⟨l, by omega, h2, fun j ha hb => ?_, h4⟩
      by_cases hj : j = i
      · exact hj ▸ hl
      · exact h3 j (by omega) hb

theorem len_mono (tr : Trace P base N ops τ η) {j : Nat} : ∀ (d : Nat), j + d ≤ ops.size → (η j).length ≤ (η (j + d)).length
  | 0, _ => Nat.le_refl _
  | d + 1, h => by
    have h1 := len_mono tr (j := j) d (by omega)
    refine Nat.le_trans h1 ?_
    obtain ⟨o, ho⟩ : ∃ o, ops[j + d]? = some o := ⟨_, Array.getElem?_eq_getElem (by omega)⟩
    rw [show j + (d + 1) = j + d + 1 by omega]
    rcases tr.step _ o ho with ⟨_, _, h2⟩ | ⟨_, v, _, _, h2, _⟩
    · rw [h2]; exact Nat.le_refl _
    · exact h2
theorem len_le (tr : Trace P base N ops τ η) {i j : Nat} (h : i ≤ j) (hj : j ≤ ops.size) : (η i).length ≤ (η j).length := by
  have := len_mono tr (j := i) (j - i) (by omega)
  rwa [show i + (j - i) = j by omega] at this

theorem pair_ok (hd : drawOk ops = true) {i j : Nat} (hij : i < j) (hj : j < ops.size) : pairOk ops i j = true := by
  simp only [drawOk, Bool.and_eq_true, List.all_eq_true, List.mem_range] at hd
  exact hd.2 j hj i hij
theorem pair_spec (hd : drawOk ops = true) {i j : Nat} (hij : i < j) {x y : Oper} (hx : ops[i]? = some x) (hy : ops[j]? = some y) : befB ops j i = true ∨ x.apart ops y = true := by
  have := pair_ok hd hij (Array.getElem?_eq_some_iff.1 hy).1
  simpa [pairOk, hx, hy] using this
theorem loud_spec {e : Nat} (h : LoudFine P base ops τ η e) {i : Nat} {o : Oper} (ho : ops[i]? = some o) (hne : i ≠ e) (hf : ¬ FreeAt P base ops τ η i) : (i < e ∧ befB ops e i = true) ∨ (e < i ∧ befB ops i e = true) := by
  rcases h i o ho hne with h | h
  · exact absurd h hf
  · exact h
theorem loud_spec' {e : Nat} (h : loudOk ops e = true) {i : Nat} {o : Oper} (ho : ops[i]? = some o) (hne : i ≠ e) (hf : heapFree o.op = false) : (i < e ∧ befB ops e i = true) ∨ (e < i ∧ befB ops i e = true) := by
  simp only [loudOk, List.all_eq_true, List.mem_range] at h
  have := h i (Array.getElem?_eq_some_iff.1 ho).1
  simpa [ho, hne, hf] using this

theorem putT_ne {T : Tm} {d : Option Tmp} {v : Value} {t : Nat} (h : d ≠ some t) : putT T d v t = T t := by
  unfold putT
  split
  · rename_i d'
    rw [if_neg (fun he => h (by rw [he]))]
  · rfl
theorem putT_eq {T : Tm} {v : Value} {t : Nat} : putT T (some t) v t = v := by simp [putT]
theorem step_T (tr : Trace P base N ops τ η) {i : Nat} {o : Oper} (ho : ops[i]? = some o) {t : Nat} (h : o.dst ≠ some t) : τ (i + 1) t = τ i t := by
  rcases tr.step i o ho with ⟨_, h1, _⟩ | ⟨_, v, h1, _⟩
  · rw [h1, putT_ne h]
  · rw [h1, putT_ne h]
/-- A temporary that nobody writes in between. -/
theorem still_T (tr : Trace P base N ops τ η) {m t : Nat} : ∀ (d : Nat), m + d ≤ ops.size → (∀ k o, m ≤ k → k < m + d → ops[k]? = some o → o.dst ≠ some t) → τ (m + d) t = τ m t
  | 0, _, _ => rfl
  | d + 1, h, hw => by
    obtain ⟨o, ho⟩ : ∃ o, ops[m + d]? = some o := ⟨_, Array.getElem?_eq_getElem (by omega)⟩
    rw [show m + (d + 1) = m + d + 1 by omega, step_T tr ho (hw _ o (by omega) (by omega) ho)]
    exact still_T tr d (by omega) fun k o h1 h2 => hw k o h1 (by omega)

/-- What holds of a temporary when some operations have come up: it is as behind the last of them that writes it. -/
def TempOk (N : Nat) (ops : Array Oper) (τ : Nat → Tm) (listed : Array Bool) (β : Map) (tmps : Array Value) (t : Nat) : Prop :=
  ∃ m, m ≤ ops.size ∧ (m = 0 ∨ ∃ o, ops[m - 1]? = some o ∧ 0 < m ∧ o.dst = some t ∧ listed.getD (m - 1) false = true) ∧
    (∀ j o, m ≤ j → ops[j]? = some o → o.dst = some t → listed.getD j false = false) ∧ Rel β (τ m t) (tmps.getD t undef)

/-- At an operation that is ready each temporary that it looks at is as the text has it there. -/
theorem temp_at (tr : Trace P base N ops τ η) (hd : drawOk ops = true) {listed : Array Bool} (hsz : listed.size = ops.size) (hc : Closed ops listed) {i : Nat} {o : Oper} (ho : ops[i]? = some o) (hr : i ∈ Region.ready .any ops listed)
    {β : Map} {tmps : Array Value} {t : Nat} (ht : TempOk N ops τ listed β tmps t) (hl : t ∈ o.looksAt ops) : Rel β (τ i t) (tmps.getD t undef) := by
  obtain ⟨m, hm, h1, h2, h3⟩ := ht
  have hi := (Array.getElem?_eq_some_iff.1 ho).1
  have hun := (mem_ready.1 hr).1
  have hun' : listed.getD i false = false := by
    rw [Array.getD_eq_getD_getElem?, Array.getElem?_eq_getElem (by omega)] at hun ⊢
    exact hun
  have hmi : m ≤ i := by
    rcases h1 with h1 | ⟨o', ho', hm0, hd', hli⟩
    · omega
    · rcases Nat.lt_or_ge i m with h4 | h4
      · exfalso
        by_cases he : m - 1 = i
        · rw [he, hun'] at hli; simp at hli
        · have hlt : i < m - 1 := by omega
          rcases pair_spec hd hlt ho ho' with h5 | h5
          · have := closed_bef hc _ _ h5 hli
            rw [hun'] at this; simp at this
          · exact (Oper.apart_spec h5).2.2 t hd' hl
      · exact h4
  have hno : ∀ k o', m ≤ k → k < m + (i - m) → ops[k]? = some o' → o'.dst ≠ some t := fun k o' hk1 hk2 hk hdst => by
    have hlk := h2 k o' hk1 hk hdst
    rcases pair_spec hd (show k < i by omega) hk ho with h5 | h5
    · have := ready_bef hc hr h5
      rw [hlk] at this; simp at this
    · exact (Oper.apart_spec h5).1 t hdst hl
  have := still_T tr (m := m) (t := t) (i - m) (by omega) hno
  rw [show m + (i - m) = i by omega] at this
  rw [this]
  exact h3

theorem getD_list_set {listed : Array Bool} {i : Nat} (hi : i < listed.size) (j : Nat) : (listed.setIfInBounds i true).getD j false = if j = i then true else listed.getD j false := by
  by_cases h : j = i
  · subst h
    simp [Array.getD_eq_getD_getElem?, hi]
  · rw [if_neg h, getD_set_ne false (Ne.symm h)]

/-- The operation's own temporary, and the others. -/
theorem temp_next (tr : Trace P base N ops τ η) (hd : drawOk ops = true) {listed : Array Bool} (hsz : listed.size = ops.size) (hc : Closed ops listed) {i : Nat} {o : Oper} (ho : ops[i]? = some o) (hr : i ∈ Region.ready .any ops listed)
    {β β' : Map} (hsub : ∀ n c, β n = some c → β' n = some c) {a : Act} (hN : a.tmps.size = N) (hok : okOper N o = true) {v v' : Value} (hτ : τ (i + 1) = putT (τ i) o.dst v) (hv : Rel β' v v') {t : Nat} (htN : t < N)
    (ht : TempOk N ops τ listed β a.tmps t) : TempOk N ops τ (listed.setIfInBounds i true) β' (a.put o.dst v').tmps t := by
  have hi := (Array.getElem?_eq_some_iff.1 ho).1
  have hun := (mem_ready.1 hr).1
  have hun' : listed.getD i false = false := by
    rw [Array.getD_eq_getD_getElem?, Array.getElem?_eq_getElem (by omega)] at hun ⊢
    exact hun
  by_cases hdst : o.dst = some t
  · refine ⟨i + 1, by omega, .inr ⟨o, by simpa using ho, by omega, hdst, ?_⟩, fun j o' hj hoj hdj => ?_, ?_⟩
    · rw [getD_list_set (by omega)]; simp
    · rw [getD_list_set (by omega), if_neg (by omega)]
      cases hlj : listed.getD j false with
      | false => rfl
      | true =>
        rcases pair_spec hd (show i < j by omega) ho hoj with h5 | h5
        · have := closed_bef hc _ _ h5 hlj
          rw [hun'] at this; simp at this
        · exact absurd hdj ((Oper.apart_spec h5).2.1 t hdst)
    · rw [hτ, hdst, putT_eq]
      have : (a.put (some t) v').tmps.getD t undef = v' := by
        simp [Act.put, Array.getD_eq_getD_getElem?, hN, htN]
      rw [this]
      exact hv
  · obtain ⟨m, hm, h1, h2, h3⟩ := ht
    refine ⟨m, hm, ?_, fun j o' hj hoj hdj => ?_, ?_⟩
    · rcases h1 with h1 | ⟨o', ho', hm0, hd', hli⟩
      · exact .inl h1
      · exact .inr ⟨o', ho', hm0, hd', by rw [getD_list_set (by omega)]; split <;> simp [hli]⟩
    · rw [getD_list_set (by omega)]
      split
      · rename_i he
        subst he
        rw [ho] at hoj
        obtain rfl := Option.some.inj hoj
        exact absurd hdj hdst
      · exact h2 j o' hj hoj hdj
    · have : (a.put o.dst v').tmps.getD t undef = a.tmps.getD t undef := by
        cases hdo : o.dst with
        | none => rfl
        | some d =>
          have hne : d ≠ t := fun he => hdst (by rw [hdo, he])
          simp [Act.put, Array.getD_eq_getD_getElem?, Array.getElem?_setIfInBounds_ne hne]
      rw [this]
      exact h3.mono hsub
end
end Go.Proofs.YtkgdkommahgakaaDoor.Abs
