/- The abstract machine: a region whose order is drawn. Whatever order comes up, the text's order tells what it leaves. -/
import Derived.Test.YtkgdkommahgakaaDoorAbs9
namespace Go.Proofs.YtkgdkommahgakaaDoor.Abs
open Go Go.RowKit
set_option linter.unusedVariables false
set_option linter.unusedSimpArgs false

def Fresh (β : Map) (σ σ' : Heap) : Prop := ∀ n, σ.length ≤ n → n < σ'.length → β n = none
def RelT (β : Map) (N : Nat) (T : Tm) (tmps : Array Value) : Prop := tmps.size = N ∧ ∀ t, t < N → Rel β (T t) (tmps.getD t undef)

/-- An operation (or the call that it is) does in the world what it does in the abstract machine. -/
def OpSound (P : Program) (base : Nat) (o : Oper) (T : Tm) (σ : Heap) (v : Value) (σ' : Heap) : Prop :=
  ∀ (β : Map) (a : Act) (w : World), (∀ x ∈ o.op.operands.toList, Rel β (aev P T x) (a.eval x)) → Sim base P.globals.size β σ w → Fresh β σ σ' →
    ∀ (next : Act → World → Prop) (Q : Exit → Act → World → Prop), (∀ v' w' β', Rel β' v v' → Sim base P.globals.size β' σ' w' → Step β σ w β' σ' w' → next (a.put o.dst v') w') → o.wp P a w next Q

theorem opSound_of_aop {P : Program} {base : Nat} {o : Oper} {T : Tm} {σ σ' : Heap} {v : Value} (h : aop P (aev P T) σ o.op = some (v, σ')) : OpSound P base o T σ v σ' := by
  intro β a w hx hs hf next Q hn
  obtain ⟨v', w', β', hr, h1, h2, h3⟩ := aop_sound (o := o) hx hs hf h
  unfold Oper.wp
  rcases hr with hr | ⟨hr, rfl⟩
  · rw [hr]
    exact hn v' w' β' h1 h2 h3
  · rw [hr]
    exact hn undef w' β' h1 h2 h3

/-! ### which operations wait for which -/
section
variable {ops : Array Oper}

theorem fold_edges (acc : Array Nat) : ∀ (l : List Edge) (s i : Nat), (l.foldl (fun s e => if Region.binds .any e = true then s ||| 2 ^ e.on ||| acc.getD e.on 0 else s) s).testBit i = true →
    s.testBit i = true ∨ ∃ e ∈ l, Region.binds .any e = true ∧ (e.on = i ∨ (acc.getD e.on 0).testBit i = true)
  | [], s, i, h => .inl h
  | e :: l, s, i, h => by
    rw [List.foldl_cons] at h
    rcases fold_edges acc l _ i h with h | ⟨e', he', h⟩
    · split at h
      · rename_i hb
        simp only [Nat.testBit_or, Bool.or_eq_true] at h
        rcases h with (h | h) | h
        · exact .inl h
        · refine .inr ⟨e, by simp, hb, .inl ?_⟩
          rw [Nat.testBit_two_pow] at h
          simpa using h
        · exact .inr ⟨e, by simp, hb, .inr h⟩
      · exact .inl h
    · exact .inr ⟨e', by simp [he'], h⟩

theorem bef_all : ∀ (l : List Oper) (acc : Array Nat) (j i : Nat), ((l.foldl (fun (acc : Array Nat) (o : Oper) => acc.push (o.after.foldl (fun s e => if Region.binds .any e = true then s ||| 2 ^ e.on ||| acc.getD e.on 0 else s) 0)) acc).getD j 0).testBit i = true →
    (acc.getD j 0).testBit i = true ∨ (acc.size ≤ j ∧ ∃ o, l[j - acc.size]? = some o ∧ ∃ e ∈ o.after.toList, Region.binds .any e = true ∧ (e.on = i ∨ (e.on < j ∧ ((l.foldl (fun (acc : Array Nat) (o : Oper) => acc.push (o.after.foldl (fun s e => if Region.binds .any e = true then s ||| 2 ^ e.on ||| acc.getD e.on 0 else s) 0)) acc).getD e.on 0).testBit i = true)))
  | [], acc, j, i, h => .inl h
  | o :: l, acc, j, i, h => by
    rw [List.foldl_cons] at h
    have keep : ∀ (l : List Oper) (acc : Array Nat) (k : Nat), k < acc.size → (l.foldl (fun (acc : Array Nat) (o : Oper) => acc.push (o.after.foldl (fun s e => if Region.binds .any e = true then s ||| 2 ^ e.on ||| acc.getD e.on 0 else s) 0)) acc).getD k 0 = acc.getD k 0 := by
      intro l
      induction l with
      | nil => intro acc k _; rfl
      | cons x l ih =>
        intro acc k hk
        rw [List.foldl_cons, ih _ k (by simp; omega)]
        simp [Array.getElem?_push, show k ≠ acc.size by omega]
    rcases bef_all l _ j i h with h1 | ⟨h1, o', ho', e, he, hb, h2⟩
    · by_cases hj : j < acc.size
      · left
        simpa [Array.getElem?_push, show j ≠ acc.size by omega] using h1
      · by_cases hj2 : j = acc.size
        · subst hj2
          right
          refine ⟨Nat.le_refl _, o, by simp, ?_⟩
          have h3 : (o.after.foldl (fun s e => if Region.binds .any e = true then s ||| 2 ^ e.on ||| acc.getD e.on 0 else s) 0).testBit i = true := by
            simpa [Array.getElem?_push] using h1
          rw [← Array.foldl_toList] at h3
          rcases fold_edges acc _ _ _ h3 with h3 | ⟨e, he, hb, h3⟩
          · simp at h3
          · refine ⟨e, he, hb, ?_⟩
            rcases h3 with h3 | h3
            · exact .inl h3
            · have hlt : e.on < acc.size := by
                rcases Nat.lt_or_ge e.on acc.size with h4 | h4
                · exact h4
                · rw [Array.getD_eq_getD_getElem?, Array.getElem?_eq_none h4] at h3
                  simp at h3
              refine .inr ⟨hlt, ?_⟩
              rw [List.foldl_cons, keep l _ e.on (by simp; omega)]
              simpa [Array.getElem?_push, show e.on ≠ acc.size by omega] using h3
        · rw [Array.getD_eq_getD_getElem?, Array.getElem?_eq_none (by simp; omega)] at h1
          simp at h1
    · right
      simp only [Array.size_push] at h1 ho'
      refine ⟨by omega, o', ?_, e, he, hb, ?_⟩
      · rw [show j - acc.size = (j - (acc.size + 1)) + 1 by omega, List.getElem?_cons_succ]
        exact ho'
      · rw [List.foldl_cons]
        exact h2

theorem bef_spec {j i : Nat} (h : befB ops j i = true) : ∃ o, ops[j]? = some o ∧ ∃ e ∈ o.after, Region.binds .any e = true ∧ (e.on = i ∨ (e.on < j ∧ befB ops e.on i = true)) := by
  unfold befB bef Region.before at h
  rw [← Array.foldl_toList] at h
  rcases bef_all ops.toList #[] j i h with h | ⟨_, o, ho, e, he, hb, h2⟩
  · simp at h
  · refine ⟨o, by simpa using ho, e, by simpa using he, hb, ?_⟩
    rcases h2 with h2 | ⟨h2, h3⟩
    · exact .inl h2
    · refine .inr ⟨h2, ?_⟩
      unfold befB bef Region.before
      rw [← Array.foldl_toList]
      exact h3

/-- What has come up holds all that it waited for. -/
def Closed (ops : Array Oper) (listed : Array Bool) : Prop := ∀ j o, ops[j]? = some o → listed.getD j false = true → ∀ e ∈ o.after, Region.binds .any e = true → listed.getD e.on false = true
theorem closed_bef {listed : Array Bool} (hc : Closed ops listed) : ∀ (j i : Nat), befB ops j i = true → listed.getD j false = true → listed.getD i false = true := by
  intro j
  induction j using Nat.strongRecOn with
  | _ j ih =>
    intro i h hj
    obtain ⟨o, ho, e, he, hb, h2⟩ := bef_spec h
    have h3 := hc j o ho hj e he hb
    rcases h2 with h2 | ⟨h2, h4⟩
    · exact h2 ▸ h3
    · exact ih e.on h2 i h4 h3
/-- What is ready has nothing left to wait for. -/
theorem ready_bef {listed : Array Bool} (hc : Closed ops listed) {i k : Nat} (hr : i ∈ Region.ready .any ops listed) (h : befB ops i k = true) : listed.getD k false = true := by
  obtain ⟨o, ho, e, he, hb, h2⟩ := bef_spec h
  obtain ⟨_, o', ho', hall⟩ := mem_ready.1 hr
  rw [ho] at ho'
  obtain rfl := Option.some.inj ho'
  have h3 := hall e he hb
  rcases h2 with h2 | ⟨_, h4⟩
  · exact h2 ▸ h3
  · exact closed_bef hc _ _ h4 h3
end

/-! ### heaps that begin alike -/
theorem look_prefix {σ σ' : Heap} (h : σ <+: σ') {n : Nat} {b : Blk} (hb : look σ n = some b) : look σ' n = some b := by
  obtain ⟨t, rfl⟩ := h
  have := look_lt hb
  unfold look at hb ⊢
  rw [List.getElem?_append_left this]
  exact hb
theorem look_prefix' {σ σ' : Heap} (h : σ <+: σ') {n : Nat} (hn : n < σ.length) : look σ' n = look σ n := by
  obtain ⟨t, rfl⟩ := h
  unfold look
  rw [List.getElem?_append_left hn]
theorem Sim.shorter {base G : Nat} {β : Map} {σ σ' : Heap} {w : World} (h : σ <+: σ') (hs : Sim base G β σ' w) : Sim base G β σ w :=
  ⟨hs.size, fun n cb b h1 h2 => hs.holds n cb b h1 (look_prefix h h2), fun n cb b h1 h2 => hs.ge n cb b h1 (look_prefix h h2),
    fun n m cb cb' b b' h0 h1 h2 h3 h4 => hs.disj n m cb cb' b b' h0 h1 h2 (look_prefix h h3) (look_prefix h h4), hs.glob⟩

theorem Holds.later {β β' : Map} {cb : CB} {b : Blk} {w w' : World} (h : Holds β cb b w) (hsub : ∀ n c, β n = some c → β' n = some c) (he : w'.heap[cb.blk]? = w.heap[cb.blk]?) : Holds β' cb b w' := by
  obtain ⟨c, e, frz, h1, h2, h3, h4⟩ := h.obj
  refine ⟨⟨c, e, frz, by rw [he]; exact h1, h2, h3, fun i v hv => ?_⟩, h.len, h.own, h.sz, h.one⟩
  obtain ⟨v', h5, h6⟩ := h4 i v hv
  exact ⟨v', h5, h6.mono hsub⟩

/-- A quiet step from a shorter heap: the longer one holds still. -/
theorem sim_quiet {base G : Nat} {β β' : Map} {σ σ' σ2 : Heap} {w w' : World} (h1 : σ <+: σ') (h2 : σ' <+: σ2) (hs2 : Sim base G β σ2 w) (hs' : Sim base G β' σ' w') (st : Step β σ w β' σ' w') : Sim base G β' σ2 w' := by
  have lt : ∀ n cb b, β n = some cb → look σ2 n = some b → cb.blk < w.heap.size := fun n cb b ha hb => by
    obtain ⟨c, e, frz, hc, _⟩ := (hs2.holds n cb b ha hb).obj
    exact (Array.getElem?_eq_some_iff.1 hc).1
  have old : ∀ n cb b, σ'.length ≤ n → β' n = some cb → look σ2 n = some b → β n = some cb := fun n cb b hn ha hb => by
    rcases st.dom n cb ha with h | ⟨_, _, h, _⟩
    · exact h
    · omega
  have same : ∀ n cb b, σ'.length ≤ n → β' n = some cb → look σ2 n = some b → w'.heap[cb.blk]? = w.heap[cb.blk]? := fun n cb b hn ha hb => by
    have hb0 := old n cb b hn ha hb
    refine st.frame cb.blk (lt n cb b hb0 hb) fun m b' cb' hm hcb' hco => ?_
    have hm2 := look_prefix (h1.trans h2) hm
    have hml := look_lt hm
    have hl := h1.length_le
    exact hs2.disj m n cb' cb b' b (by omega) hcb' hb0 hm2 hb hco
  -- a name of the step's own, that is not killed in it, lies in a new block
  have new : ∀ n cb b, n < σ'.length → look σ2 n = some b → β' n = some cb → β n = none → w.heap.size ≤ cb.blk := fun n cb b hn hb ha h0 => by
    rcases st.dom n cb ha with h | ⟨_, h3, _, hco, h4⟩
    · rw [h0] at h; simp at h
    · rcases h4 with h4 | ⟨k, b', ck, hk, hck, hcko, hckb⟩
      · exact h4
      · exfalso
        have hk' := look_prefix h1 hk
        have hkl := look_lt hk
        exact hs'.disj k n ck cb b' b (by omega) (st.sub k ck hck) ha hk' (by rw [← look_prefix' h2 hn]; exact hb) hcko hckb
  refine ⟨Nat.le_trans hs2.size st.size, fun n cb b ha hb => ?_, fun n cb b ha hb hco => ?_, fun n m cb cb' b b' hnm ha ha' hb hb' hco => ?_, hs'.glob⟩
  · rcases Nat.lt_or_ge n σ'.length with hn | hn
    · exact hs'.holds n cb b ha (by rw [← look_prefix' h2 hn]; exact hb)
    · exact (hs2.holds n cb b (old n cb b hn ha hb) hb).later st.sub (same n cb b hn ha hb)
  · rcases Nat.lt_or_ge n σ'.length with hn | hn
    · exact hs'.ge n cb b ha (by rw [← look_prefix' h2 hn]; exact hb) hco
    · exact hs2.ge n cb b (old n cb b hn ha hb) hb hco
  · rcases Nat.lt_or_ge n σ'.length with hn | hn
    · rcases Nat.lt_or_ge m σ'.length with hm | hm
      · exact hs'.disj n m cb cb' b b' hnm ha ha' (by rw [← look_prefix' h2 hn]; exact hb) (by rw [← look_prefix' h2 hm]; exact hb') hco
      · have hm0 := old m cb' b' hm ha' hb'
        have hlt := lt m cb' b' hm0 hb'
        cases hn0 : β n with
        | none =>
          have := new n cb b hn hb ha hn0
          omega
        | some c0 =>
          have e := st.sub n c0 hn0
          rw [ha] at e
          obtain rfl := Option.some.inj e
          exact hs2.disj n m cb cb' b b' hnm hn0 hm0 hb hb' hco
    · have hn0 := old n cb b hn ha hb
      have hlt := lt n cb b hn0 hb
      rcases Nat.lt_or_ge m σ'.length with hm | hm
      · cases hm0 : β m with
        | none =>
          have := new m cb' b' hm hb' ha' hm0
          omega
        | some c0 =>
          have e := st.sub m c0 hm0
          rw [ha'] at e
          obtain rfl := Option.some.inj e
          exact hs2.disj n m cb cb' b b' hnm hn0 hm0 hb hb' hco
      · exact hs2.disj n m cb cb' b b' hnm hn0 (old m cb' b' hm ha' hb') hb hb' hco

/-- Names beyond a heap that stand nowhere: a longer heap holds as well. -/
theorem sim_beyond {base G : Nat} {β : Map} {σ σ2 : Heap} {w : World} (h : σ <+: σ2) (hs : Sim base G β σ w) (hf : ∀ n, σ.length ≤ n → n < σ2.length → β n = none) : Sim base G β σ2 w := by
  have lk : ∀ n cb b, β n = some cb → look σ2 n = some b → look σ n = some b := fun n cb b ha hb => by
    rcases Nat.lt_or_ge n σ.length with hn | hn
    · rw [← look_prefix' h hn]; exact hb
    · rw [hf n hn (look_lt hb)] at ha; simp at ha
  exact ⟨hs.size, fun n cb b ha hb => hs.holds n cb b ha (lk n cb b ha hb), fun n cb b ha hb => hs.ge n cb b ha (lk n cb b ha hb),
    fun n m cb cb' b b' h0 ha ha' hb hb' => hs.disj n m cb cb' b b' h0 ha ha' (lk n cb b ha hb) (lk m cb' b' ha' hb'), hs.glob⟩
end Go.Proofs.YtkgdkommahgakaaDoor.Abs
