/- The abstract machine: a region whose order is drawn: the text's order serves every order (the main proof). -/
import Derived.Test.YtkgdkommahgakaaDoorAbs11
namespace Go.Proofs.YtkgdkommahgakaaDoor.Abs
open Go Go.RowKit
set_option linter.unusedVariables false
set_option linter.unusedSimpArgs false

section
variable {P : Program} {base N : Nat} {ops : Array Oper} {τ : Nat → Tm} {η : Nat → Heap}

/-- Where a walk in some order stands. -/
structure Inv (P : Program) (base N : Nat) (ops : Array Oper) (τ : Nat → Tm) (η : Nat → Heap) (β0 : Map) (w0 : World) (d0 : List Deferred) (listed : Array Bool) (a : Act) (w : World) (β : Map) (l : Nat) : Prop where
  lsz : listed.size = ops.size
  closed : Closed ops listed
  tsz : a.tmps.size = N
  defers : a.defers = d0
  temps : ∀ t, t < N → TempOk N ops τ listed β a.tmps t
  le : l ≤ ops.size
  loud : l = ops.size ∨ (LoudAt P base ops τ η l ∧ listed.getD l false = false)
  before : ∀ i, i < ops.size → listed.getD i false = true → ¬ FreeAt P base ops τ η i → i < l
  calmed : ∀ i, i < l → listed.getD i false = false → ¬ FreeAt P base ops τ η i → ∀ j, i ≤ j → j < l → ¬ LoudAt P base ops τ η j
  sim : Sim base P.globals.size β (η l) w
  unborn : ∀ i, i < l → listed.getD i false = false → ∀ m, (η i).length ≤ m → m < (η (i + 1)).length → β m = none
  later : ∀ m, (η l).length ≤ m → m < (η ops.size).length → β m = none
  sub : ∀ n cb, β0 n = some cb → β n = some cb
  dom : ∀ m cb, β m = some cb → β0 m = some cb ∨ (β0 m = none ∧ (η 0).length ≤ m ∧ m < (η ops.size).length ∧ cb.own = true ∧ (w0.heap.size ≤ cb.blk ∨ ∃ k b ck, look (η 0) k = some b ∧ β0 k = some ck ∧ ck.own = true ∧ ck.blk = cb.blk))
  size : w0.heap.size ≤ w.heap.size
  os : w.os = w0.os
  tape : w.tape = w0.tape
  output : w.output = w0.output
  frame : ∀ k, k < w0.heap.size → (∀ n b cb, look (η 0) n = some b → β0 n = some cb → cb.own = true → cb.blk ≠ k) → w.heap[k]? = w0.heap[k]?
  dead : ∀ k, k < (η 0).length → look (η 0) k = none → look (η l) k = none

/-- A step of the walk, put behind what has been done. -/
theorem inv_chain (tr : Trace P base N ops τ η) {β0 β β' : Map} {w0 w w' : World} {σ σ' : Heap} (hf0 : Fresh β0 (η 0) (η ops.size)) (hl : (η 0).length ≤ σ.length) (hl2 : σ'.length ≤ (η ops.size).length)
    (dead : ∀ k, k < (η 0).length → look (η 0) k = none → look σ k = none)
    (dom : ∀ m cb, β m = some cb → β0 m = some cb ∨ (β0 m = none ∧ (η 0).length ≤ m ∧ m < (η ops.size).length ∧ cb.own = true ∧ (w0.heap.size ≤ cb.blk ∨ ∃ k b ck, look (η 0) k = some b ∧ β0 k = some ck ∧ ck.own = true ∧ ck.blk = cb.blk)))
    (size : w0.heap.size ≤ w.heap.size) (sub : ∀ n cb, β0 n = some cb → β n = some cb)
    (frame : ∀ k, k < w0.heap.size → (∀ n b cb, look (η 0) n = some b → β0 n = some cb → cb.own = true → cb.blk ≠ k) → w.heap[k]? = w0.heap[k]?)
    (st : Step β σ w β' σ' w') :
    (∀ m cb, β' m = some cb → β0 m = some cb ∨ (β0 m = none ∧ (η 0).length ≤ m ∧ m < (η ops.size).length ∧ cb.own = true ∧ (w0.heap.size ≤ cb.blk ∨ ∃ k b ck, look (η 0) k = some b ∧ β0 k = some ck ∧ ck.own = true ∧ ck.blk = cb.blk))) ∧
    (∀ k, k < w0.heap.size → (∀ n b cb, look (η 0) n = some b → β0 n = some cb → cb.own = true → cb.blk ≠ k) → w'.heap[k]? = w0.heap[k]?) := by
  -- a name of the beginning that lives now lived then
  have alive : ∀ k b ck, look σ k = some b → β0 k = some ck → σ.length ≤ (η ops.size).length → ∃ b0, look (η 0) k = some b0 := fun k b ck hk hck hle => by
    have hkl := look_lt hk
    have hk0 : k < (η 0).length := by
      rcases Nat.lt_or_ge k (η 0).length with h | h
      · exact h
      · have := hf0 k h (Nat.lt_of_lt_of_le hkl hle)
        rw [hck] at this; simp at this
    cases h0 : look (η 0) k with
    | none => rw [dead k hk0 h0] at hk; simp at hk
    | some b0 => exact ⟨b0, rfl⟩
  have hle : σ.length ≤ (η ops.size).length := Nat.le_trans st.len hl2
  constructor
  · intro m cb hm
    rcases st.dom m cb hm with h | ⟨hn, h1, h2, hco, h3⟩
    · exact dom m cb h
    · refine .inr ⟨?_, by omega, by omega, hco, ?_⟩
      · cases h : β0 m with
        | none => rfl
        | some c => rw [sub m c h] at hn; simp at hn
      · rcases h3 with h3 | ⟨k, b, ck, hk, hck, hcko, hckb⟩
        · exact .inl (by omega)
        · rcases dom k ck hck with h4 | ⟨_, _, _, _, h5⟩
          · obtain ⟨b0, hb0⟩ := alive k b ck hk h4 hle
            exact .inr ⟨k, b0, ck, hb0, h4, hcko, hckb⟩
          · rw [← hckb]; exact h5
  · intro k hk h
    rw [← frame k hk h]
    refine st.frame k (by omega) fun n b cb hn hcb hco => ?_
    rcases dom n cb hcb with h4 | ⟨_, _, _, _, h5⟩
    · obtain ⟨b0, hb0⟩ := alive n b cb hn h4 hle
      exact h n b0 cb hb0 h4 hco
    · rcases h5 with h5 | ⟨k', b', ck, hk', hck, hcko, hckb⟩
      · omega
      · rw [← hckb]; exact h k' b' ck hk' hck hcko

theorem closed_next {listed : Array Bool} (hsz : listed.size = ops.size) (hc : Closed ops listed) {i : Nat} (hr : i ∈ Region.ready .any ops listed) : Closed ops (listed.setIfInBounds i true) := by
  obtain ⟨hun, o, ho, hall⟩ := mem_ready.1 hr
  have hi := (Array.getElem?_eq_some_iff.1 ho).1
  intro j oj hoj hj e he hb
  rw [getD_list_set (by omega)] at hj ⊢
  split
  · rfl
  · split at hj
    · rename_i h1
      subst h1
      rw [ho] at hoj
      obtain rfl := Option.some.inj hoj
      exact hall e he hb
    · exact hc j oj hoj hj e he hb

theorem wanted_eq {β : Map} {T : Tm} {a : Act} {o : Oper} {b : Bool} (hN : a.tmps.size = N) (hops : ops.all (okOper N) = true) (hw : awanted ops T o = some b) (hT : ∀ t ∈ o.looksAt ops, Rel β (T t) (a.tmps.getD t undef)) :
    Region.wanted o (yielded ops a.tmps) = b := by
  unfold awanted at hw
  unfold Region.wanted
  split at hw
  · rename_i hg
    rw [hg]
    exact Option.some.inj hw
  · rename_i j want hg
    rw [hg]
    simp only
    unfold yielded
    cases hd : (ops[j]?).bind (·.dst) with
    | none =>
      rw [hd] at hw
      obtain rfl := Option.some.inj hw
      rfl
    | some d =>
      rw [hd] at hw
      simp only at hw
      have hmem : d ∈ o.looksAt ops := by
        unfold Oper.looksAt
        simp only [hg, hd]
        simp
      have hr := hT d hmem
      obtain ⟨oj, hoj, hdj⟩ := Option.bind_eq_some_iff.1 hd
      have hdN : d < N := by
        have := Array.all_eq_true_iff_forall_mem.1 hops oj (Array.mem_of_getElem? hoj)
        simp only [okOper, hdj, Bool.and_eq_true, decide_eq_true_eq] at this
        exact this.2
      have hget : a.tmps[d]? = some (a.tmps.getD d undef) := by
        rw [Array.getD_eq_getD_getElem?, Array.getElem?_eq_getElem (show d < a.tmps.size by rw [hN]; exact hdN)]
        rfl
      simp only [Option.bind_some, hget]
      split at hw
      · rename_i b' hb'
        rw [hb'] at hr
        rw [hr.bool_inv]
        obtain rfl := Option.some.inj hw
        cases b' <;> cases want <;> rfl
      · rename_i vs hvs
        split at hw
        · rename_i hz
          obtain rfl := Option.some.inj hw
          rw [hvs] at hr
          have : vs = #[] := Array.eq_empty_of_size_eq_zero hz
          subst this
          rw [hr.undef_inv]
          rfl
        · simp at hw
      · simp at hw

theorem aev_rel {β : Map} {G : Nat} {T : Tm} {a : Act} {x : Operand} (hG : G = P.globals.size) (hglob : ∀ g, g < G → ∃ cb, β g = some cb ∧ cb.blk = g ∧ cb.off = 0) (hT : ∀ t, x = .tmp t → Rel β (T t) (a.tmps.getD t undef)) : Rel β (aev P T x) (a.eval x) := by
  cases x with
  | tmp t => exact hT t rfl
  | const v =>
    simp only [aev, Act.eval]
    split
    · rename_i h; exact .scal v h
    · exact .any v
  | global g =>
    simp only [aev, Act.eval]
    split
    · rename_i h
      obtain ⟨cb, h1, h2, h3⟩ := hglob g (by omega)
      have := Rel.ptr (β := β) g 0 cb h1
      rw [h2, h3] at this
      exact this
    · exact .any _
  | func f => exact .func _ _ _ _ _ .nil .nil

theorem count_set : ∀ (l : List Bool) (i : Nat), l[i]? = some false → (l.set i true).count false + 1 = l.count false
  | [], i, h => by simp at h
  | b :: l, 0, h => by
    simp only [List.getElem?_cons_zero, Option.some.injEq] at h
    subst h
    simp
  | b :: l, i + 1, h => by
    simp only [List.getElem?_cons_succ] at h
    have := count_set l i h
    rw [List.set_cons_succ, List.count_cons, List.count_cons]
    omega
theorem count_zero {listed : Array Bool} (h : listed.toList.count false = 0) (i : Nat) (hi : i < listed.size) : listed.getD i false = true := by
  have h1 := List.count_eq_zero.1 h
  rw [Array.getD_eq_getD_getElem?, Array.getElem?_eq_getElem hi]
  simp only [Option.getD_some]
  cases hb : listed[i] with
  | true => rfl
  | false => exact absurd (by rw [← hb]; simp) h1

/-- Something is ready, as long as anything is left. -/
theorem ready_some (hd : drawOk ops = true) {listed : Array Bool} (hsz : listed.size = ops.size) (h : Region.ready .any ops listed = []) : ∀ i, i < ops.size → listed.getD i false = true := by
  intro i
  induction i using Nat.strongRecOn with
  | _ i ih =>
    intro hi
    cases hl : listed.getD i false with
    | true => rfl
    | false =>
      exfalso
      obtain ⟨o, ho⟩ : ∃ o, ops[i]? = some o := ⟨_, Array.getElem?_eq_getElem hi⟩
      have hr : i ∈ Region.ready .any ops listed := by
        rw [mem_ready]
        refine ⟨?_, o, ho, fun e he hb => ih e.on ?_ ?_⟩
        · rw [Array.getD_eq_getD_getElem?, Array.getElem?_eq_getElem (by omega)] at hl ⊢
          exact hl
        all_goals
          have he' : e.on < i := by
            simp only [drawOk, Bool.and_eq_true] at hd
            have h1 := hd.1.2
            simp only [edgesOk, List.all_eq_true, List.mem_range] at h1
            have h2 := h1 i hi
            simp only [ho] at h2
            have h3 := Array.all_eq_true_iff_forall_mem.1 h2 e he
            simp only [hb, Bool.not_true, Bool.false_or, decide_eq_true_eq] at h3
            exact h3
        · exact he'
        · omega
      rw [h] at hr
      cases hr

/-- At the end all has come up, and the world is as the last heap says. -/
theorem inv_end {β0 β : Map} {w0 w : World} {d0 : List Deferred} {listed : Array Bool} {a : Act} {l : Nat} (tr : Trace P base N ops τ η) (hf0 : Fresh β0 (η 0) (η ops.size)) (inv : Inv P base N ops τ η β0 w0 d0 listed a w β l) (hall : ∀ i, i < ops.size → listed.getD i false = true) :
    RelT β N (τ ops.size) a.tmps ∧ a.defers = d0 ∧ Sim base P.globals.size β (η ops.size) w ∧ Step β0 (η 0) w0 β (η ops.size) w := by
  have hl : l = ops.size := by
    rcases inv.loud with h | ⟨h, h2⟩
    · exact h
    · rw [hall l h.1] at h2; simp at h2
  subst hl
  refine ⟨⟨inv.tsz, fun t ht => ?_⟩, inv.defers, inv.sim, ⟨len_le tr (Nat.zero_le _) (Nat.le_refl _), inv.dead, hf0, inv.sub, ?_, inv.size, inv.os, inv.tape, inv.output, inv.frame⟩⟩
  · obtain ⟨m, hm, h1, h2, h3⟩ := inv.temps t ht
    have hno : ∀ k o', m ≤ k → k < m + (ops.size - m) → ops[k]? = some o' → o'.dst ≠ some t := fun k o' hk1 hk2 hk hdst => by
      have h4 := h2 k o' hk1 hk hdst
      rw [hall k (by omega)] at h4; simp at h4
    have := still_T tr (m := m) (t := t) (ops.size - m) (by omega) hno
    rw [show m + (ops.size - m) = ops.size by omega] at this
    rw [this]
    exact h3
  · intro n cb h
    exact inv.dom n cb h

theorem prefix_len {σ σ' : Heap} (h : σ <+: σ') : σ.length ≤ σ'.length := h.length_le

/-- **One operation more.** -/
theorem inv_step (tr : Trace P base N ops τ η) (hd : drawOk ops = true) (hops : ops.all (okOper N) = true) {β0 : Map} {w0 : World} {d0 : List Deferred} (hf0 : Fresh β0 (η 0) (η ops.size)) {listed : Array Bool} {a : Act} {w : World} {β : Map} {l : Nat}
    (inv : Inv P base N ops τ η β0 w0 d0 listed a w β l) {i : Nat} (hr : i ∈ Region.ready .any ops listed) {Q : Exit → Act → World → Prop} {K : Act → World → Prop}
    (hK : ∀ a' w' β' l', Inv P base N ops τ η β0 w0 d0 (listed.setIfInBounds i true) a' w' β' l' → K a' w') : wpOp P ops Q i K a w := by
  obtain ⟨hun, o, ho, hall⟩ := mem_ready.1 hr
  have hi := (Array.getElem?_eq_some_iff.1 ho).1
  have hun' : listed.getD i false = false := by
    rw [Array.getD_eq_getD_getElem?, Array.getElem?_eq_getElem (by rw [inv.lsz]; exact hi)] at hun ⊢
    exact hun
  have hok : okOper N o = true := Array.all_eq_true_iff_forall_mem.1 hops o (Array.mem_of_getElem? ho)
  have hlsz := inv.lsz
  have tmpN : ∀ t, Operand.tmp t ∈ o.op.operands.toList → t < N := fun t ht => by
    simp only [okOper, Bool.and_eq_true] at hok
    have := Array.all_eq_true_iff_forall_mem.1 hok.1 _ (by simpa using ht)
    simpa [okOpnd] using this
  have looksN : ∀ t ∈ o.looksAt ops, t < N := fun t ht => by
    unfold Oper.looksAt at ht
    rcases List.mem_append.1 ht with ht | ht
    · obtain ⟨x, hx, hxt⟩ := List.mem_filterMap.1 ht
      cases x <;> simp at hxt
      subst hxt
      exact tmpN _ hx
    · cases hg : o.guard with
      | none => rw [hg] at ht; simp at ht
      | some g =>
        rw [hg] at ht
        simp only at ht
        cases hgd : (ops[g.1]?).bind (·.dst) with
        | none => rw [hgd] at ht; simp at ht
        | some d =>
          rw [hgd] at ht
          simp only [Option.toList_some, List.mem_singleton] at ht
          subst ht
          obtain ⟨oj, hoj, hdj⟩ := Option.bind_eq_some_iff.1 hgd
          have := Array.all_eq_true_iff_forall_mem.1 hops oj (Array.mem_of_getElem? hoj)
          simp only [okOper, hdj, Bool.and_eq_true, decide_eq_true_eq] at this
          exact this.2
  have hT : ∀ t ∈ o.looksAt ops, Rel β (τ i t) (a.tmps.getD t undef) := fun t ht => temp_at tr hd hlsz inv.closed ho hr (inv.temps t (looksN t ht)) ht
  have hopd : ∀ x ∈ o.op.operands.toList, Rel β (aev P (τ i) x) (a.eval x) := fun x hx => aev_rel rfl inv.sim.glob fun t ht => hT t (by
    unfold Oper.looksAt
    refine List.mem_append_left _ (List.mem_filterMap.2 ⟨x, hx, ?_⟩)
    rw [ht])
  have hcl := closed_next hlsz inv.closed hr
  -- what doesn't hang on the operation's kind
  have putsz : ∀ v', (a.put o.dst v').tmps.size = N := fun v' => by
    cases hdo : o.dst with
    | none => exact inv.tsz
    | some d => simp [Act.put, inv.tsz]
  have putdef : ∀ v', (a.put o.dst v').defers = d0 := fun v' => by
    cases hdo : o.dst with
    | none => exact inv.defers
    | some d => exact inv.defers
  have nextT : ∀ {β' : Map} {v v' : Value}, (∀ n c, β n = some c → β' n = some c) → τ (i + 1) = putT (τ i) o.dst v → Rel β' v v' → ∀ t, t < N → TempOk N ops τ (listed.setIfInBounds i true) β' (a.put o.dst v').tmps t :=
    fun hsub hτ hv t ht => temp_next tr hd hlsz inv.closed ho hr hsub inv.tsz hok hτ hv ht (inv.temps t ht)
  have lset : ∀ j, (listed.setIfInBounds i true).getD j false = if j = i then true else listed.getD j false := getD_list_set (by omega)
  have lset_un : ∀ j, (listed.setIfInBounds i true).getD j false = false → j ≠ i ∧ listed.getD j false = false := fun j h => by
    rw [lset] at h
    split at h
    · simp at h
    · rename_i hj; exact ⟨hj, h⟩
  unfold wpOp
  simp only [ho]
  rcases tr.step i o ho with ⟨hw, hτ, hη⟩ | ⟨hw, v, hτ, hsound, hlen, hkind⟩
  · -- it is not carried out
    rw [wanted_eq inv.tsz hops hw hT]
    simp only [Bool.false_eq_true, if_false]
    have hfree : FreeAt P base ops τ η i := ⟨o, ho, .inl hw⟩
    have hnl : l ≠ i := fun h => by
      rcases inv.loud with h2 | ⟨h2, _⟩
      · omega
      · exact h2.2.1 (h ▸ hfree)
    refine hK _ _ β l ⟨by simp [hlsz], hcl, putsz _, putdef _, nextT (fun _ _ h => h) hτ (rel_undef β), inv.le, ?_, ?_, ?_, inv.sim, ?_, inv.later, inv.sub, inv.dom, inv.size, inv.os, inv.tape, inv.output, inv.frame, inv.dead⟩
    · rcases inv.loud with h | ⟨h, h2⟩
      · exact .inl h
      · exact .inr ⟨h, by rw [lset, if_neg hnl]; exact h2⟩
    · intro j hj hlj hnf
      rw [lset] at hlj
      split at hlj
      · rename_i he; exact absurd (he ▸ hfree) hnf
      · exact inv.before j hj hlj hnf
    · exact fun j hj hlj hnf => inv.calmed j hj (lset_un j hlj).2 hnf
    · exact fun j hj hlj => inv.unborn j hj (lset_un j hlj).2
  · rw [wanted_eq inv.tsz hops hw hT]
    simp only [if_true]
    left
    have freeK : ∀ v, FreeAt P base ops τ η i → τ (i + 1) = putT (τ i) o.dst v → OpSound P base o (τ i) (η l) v (η l) → o.wp P a w K Q := by
      intro v hfree hτ hany
      have hnl : l ≠ i := fun h => by
        rcases inv.loud with h2 | ⟨h2, _⟩
        · omega
        · exact h2.2.1 (h ▸ hfree)
      refine hany β a w hopd inv.sim (fun n h1 h2 => by omega) K Q fun v' w' β' hv hs' st => ?_
      obtain ⟨hdom, hframe⟩ := inv_chain tr hf0 (len_le tr (Nat.zero_le _) inv.le) (len_le tr inv.le (Nat.le_refl _)) inv.dead inv.dom inv.size inv.sub inv.frame st
      have hβ : ∀ m, β m = none → β' m = none := fun m hm => by
        cases h : β' m with
        | none => rfl
        | some cb =>
          rcases st.dom m cb h with h2 | ⟨_, h2, h3, _⟩
          · rw [hm] at h2; simp at h2
          · omega
      refine hK _ _ β' l ⟨by simp [hlsz], hcl, putsz _, putdef _, nextT st.sub hτ hv, inv.le, ?_, ?_, ?_, hs', ?_, fun m h1 h2 => hβ m (inv.later m h1 h2), fun n cb h => st.sub n cb (inv.sub n cb h), hdom, Nat.le_trans inv.size st.size, st.os.trans inv.os, st.tape.trans inv.tape, st.output.trans inv.output, hframe, inv.dead⟩
      · rcases inv.loud with h | ⟨h, h2⟩
        · exact .inl h
        · exact .inr ⟨h, by rw [lset, if_neg hnl]; exact h2⟩
      · intro j hj hlj hnf
        rw [lset] at hlj
        split at hlj
        · rename_i he; exact absurd (he ▸ hfree) hnf
        · exact inv.before j hj hlj hnf
      · exact fun j hj hlj hnf => inv.calmed j hj (lset_un j hlj).2 hnf
      · exact fun j hj hlj m h1 h2 => hβ m (inv.unborn j hj (lset_un j hlj).2 m h1 h2)
    rcases hkind with ⟨hhf, hη, hany⟩ | ⟨hhf, hkind⟩
    · -- it looks at no memory
      exact freeK v ⟨o, ho, .inr (.inl hhf)⟩ hτ (hany (η l))
    by_cases hfr : FreeAt P base ops τ η i
    · -- it looks at what nobody touches
      obtain ⟨o', ho', h⟩ := id hfr
      rw [ho] at ho'
      obtain rfl := Option.some.inj ho'
      rcases h with h | h | ⟨h1, h2, v2, h3, h4⟩
      · rw [hw] at h; simp at h
      · rw [hhf] at h; simp at h
      · refine freeK v2 hfr h3 (h4 l ?_ inv.le)
        rcases Nat.lt_or_ge l i with h | h
        · exfalso
          rcases inv.loud with h5 | ⟨h5, _⟩
          · omega
          · exact h5.2.2 (h2 l h)
        · exact h
    · have hnf := hfr
      -- the next loud one lets nothing by that looks at memory
      have hil : i ≤ l := by
        rcases Nat.lt_or_ge l i with h | h
        · exfalso
          rcases inv.loud with h2 | ⟨h2, h3⟩
          · omega
          · rcases loud_spec (loud_ok tr h2) ho (by omega) hnf with ⟨h4, _⟩ | ⟨_, h5⟩
            · omega
            · have := ready_bef inv.closed hr h5
              rw [h3] at this; simp at this
        · exact h
      by_cases hpre : η i <+: η (i + 1)
      · -- it only makes memory
        have hloud : ¬ LoudAt P base ops τ η i := fun h => h.2.2 hpre
        have hil2 : i < l := by
          rcases Nat.lt_or_ge i l with h | h
          · exact h
          · have : l = i := by omega
            rcases inv.loud with h2 | ⟨h2, _⟩
            · omega
            · exact absurd (this ▸ h2) hloud
        have hcalm := inv.calmed i hil2 hun' hnf
        have hp1 : η (i + 1) <+: η l := by
          have := calm tr (j := i + 1) (l - (i + 1)) (by have := inv.le; omega) fun j h1 h2 => hcalm j (by omega) (by omega)
          rwa [show i + 1 + (l - (i + 1)) = l by omega] at this
        have hs0 := inv.sim.shorter (hpre.trans hp1)
        refine hsound β a w hopd hs0 (fun m h1 h2 => inv.unborn i hil2 hun' m h1 h2) K Q fun v' w' β' hv hs' st => ?_
        have hs2 := sim_quiet hpre hp1 inv.sim hs' st
        have hdead : ∀ k, k < (η 0).length → look (η 0) k = none → look (η i) k = none := fun k hk h0 => by
          cases h : look (η i) k with
          | none => rfl
          | some b =>
            have := look_prefix (hpre.trans hp1) h
            rw [inv.dead k hk h0] at this; simp at this
        obtain ⟨hdom, hframe⟩ := inv_chain tr hf0 (len_le tr (Nat.zero_le _) (by omega)) (len_le tr (by omega) (Nat.le_refl _)) hdead inv.dom inv.size inv.sub inv.frame st
        have hβ : ∀ m, β m = none → (m < (η i).length ∨ (η (i + 1)).length ≤ m) → β' m = none := fun m hm hout => by
          cases h : β' m with
          | none => rfl
          | some cb =>
            rcases st.dom m cb h with h2 | ⟨_, h2, h3, _⟩
            · rw [hm] at h2; simp at h2
            · omega
        refine hK _ _ β' l ⟨by simp [hlsz], hcl, putsz _, putdef _, nextT st.sub hτ hv, inv.le, ?_, ?_, ?_, hs2, ?_, fun m h1 h2 => hβ m (inv.later m h1 h2) (.inr (Nat.le_trans (prefix_len hp1) h1)), fun n cb h => st.sub n cb (inv.sub n cb h), hdom, Nat.le_trans inv.size st.size, st.os.trans inv.os, st.tape.trans inv.tape, st.output.trans inv.output, hframe, inv.dead⟩
        · rcases inv.loud with h | ⟨h, h2⟩
          · exact .inl h
          · exact .inr ⟨h, by rw [lset, if_neg (by omega)]; exact h2⟩
        · intro j hj hlj hnfj
          rw [lset] at hlj
          split at hlj
          · rename_i he; omega
          · exact inv.before j hj hlj hnfj
        · exact fun j hj hlj hnfj => inv.calmed j hj (lset_un j hlj).2 hnfj
        · intro j hj hlj m h1 h2
          obtain ⟨hji, hlj⟩ := lset_un j hlj
          refine hβ m (inv.unborn j hj hlj m h1 h2) ?_
          have hle := inv.le
          rcases Nat.lt_or_ge j i with h3 | h3
          · have := len_le tr (show j + 1 ≤ i by omega) (by omega)
            omega
          · have := len_le tr (show i + 1 ≤ j by omega) (by omega)
            omega
      · -- it turns memory: it is the next loud one
        have hloud : LoudAt P base ops τ η i := ⟨hi, hnf, hpre⟩
        have hli : l = i := by
          rcases Nat.lt_or_ge i l with h | h
          · exact absurd hloud (inv.calmed i h hun' hnf i (Nat.le_refl _) h)
          · omega
        subst hli
        have hfresh : Fresh β (η l) (η (l + 1)) := fun m h1 h2 => inv.later m h1 (Nat.lt_of_lt_of_le h2 (len_le tr (by omega) (Nat.le_refl _)))
        refine hsound β a w hopd inv.sim hfresh K Q fun v' w' β' hv hs' st => ?_
        obtain ⟨hdom, hframe⟩ := inv_chain tr hf0 (len_le tr (Nat.zero_le _) inv.le) (len_le tr (by omega) (Nat.le_refl _)) inv.dead inv.dom inv.size inv.sub inv.frame st
        obtain ⟨l', k1, k2, k3, k4⟩ := next_loud (P := P) (base := base) (τ := τ) (η := η) (ops := ops) (ops.size - (l + 1)) (l + 1) (by omega)
        have hp : η (l + 1) <+: η l' := by
          have := calm tr (j := l + 1) (l' - (l + 1)) (by omega) fun j h1 h2 => k3 j h1 (by omega)
          rwa [show l + 1 + (l' - (l + 1)) = l' by omega] at this
        have hβ : ∀ m, (η (l + 1)).length ≤ m → m < (η ops.size).length → β' m = none := fun m h1 h2 => by
          cases h : β' m with
          | none => rfl
          | some cb =>
            rcases st.dom m cb h with h3 | ⟨_, h3, h4, _⟩
            · rw [inv.later m (Nat.le_trans st.len h1) h2] at h3; simp at h3
            · omega
        have hs2 : Sim base P.globals.size β' (η l') w' := sim_beyond hp hs' fun m h1 h2 => hβ m h1 (Nat.lt_of_lt_of_le h2 (len_le tr k2 (Nat.le_refl _)))
        -- all that looks at memory and stands before it has come up
        have hbefore : ∀ j, j < l → ¬ FreeAt P base ops τ η j → listed.getD j false = true := fun j hj hnfj => by
          obtain ⟨oj, hoj⟩ : ∃ oj, ops[j]? = some oj := ⟨_, Array.getElem?_eq_getElem (by omega)⟩
          rcases loud_spec (loud_ok tr hloud) hoj (by omega) hnfj with ⟨_, h5⟩ | ⟨h5, _⟩
          · exact ready_bef inv.closed hr h5
          · omega
        refine hK _ _ β' l' ⟨by simp [hlsz], hcl, putsz _, putdef _, nextT st.sub hτ hv, k2, ?_, ?_, ?_, hs2, ?_, fun m h1 h2 => hβ m (Nat.le_trans (prefix_len hp) h1) h2, fun n cb h => st.sub n cb (inv.sub n cb h), hdom, Nat.le_trans inv.size st.size, st.os.trans inv.os, st.tape.trans inv.tape, st.output.trans inv.output, hframe, ?_⟩
        · rcases k4 with h | h
          · exact .inl h
          · refine .inr ⟨h, ?_⟩
            rw [lset, if_neg (by omega)]
            cases hl' : listed.getD l' false with
            | false => rfl
            | true =>
              have := inv.before l' h.1 hl' h.2.1
              omega
        · intro j hj hlj hnfj
          rw [lset] at hlj
          split at hlj
          · omega
          · have := inv.before j hj hlj hnfj
            omega
        · intro j hj hlj hnfj i' h1 h2
          obtain ⟨hjl, hlj⟩ := lset_un j hlj
          have : l < j := by
            rcases Nat.lt_or_ge j l with h3 | h3
            · rw [hbefore j h3 hnfj] at hlj; simp at hlj
            · omega
          exact k3 i' (by omega) h2
        · intro j hj hlj m h1 h2
          obtain ⟨hjl, hlj⟩ := lset_un j hlj
          rcases Nat.lt_or_ge j l with h3 | h3
          · by_cases hfj : FreeAt P base ops τ η j
            · rw [free_same tr hfj] at h2; omega
            · rw [hbefore j h3 hfj] at hlj; simp at hlj
          · refine hβ m ?_ (Nat.lt_of_lt_of_le h2 (len_le tr (by omega) (Nat.le_refl _)))
            have := len_le tr (show l + 1 ≤ j by omega) (by omega)
            omega
        · intro k hk h0
          have h1 := st.dead k (Nat.lt_of_lt_of_le hk (len_le tr (Nat.zero_le _) (by omega))) (inv.dead k hk h0)
          have hkl : k < (η (l + 1)).length := Nat.lt_of_lt_of_le hk (len_le tr (Nat.zero_le _) (by omega))
          rw [look_prefix' hp hkl]
          exact h1

/-- **Whatever order comes up, the text's order tells what a region leaves.** -/
theorem draw_sound (tr : Trace P base N ops τ η) (hd : drawOk ops = true) (hops : ops.all (okOper N) = true) (hm : P.follows .mixedOrders = true) {β0 : Map} {a0 : Act} {w0 : World} (hT : RelT β0 N (τ 0) a0.tmps) (hs : Sim base P.globals.size β0 (η 0) w0) (hf0 : Fresh β0 (η 0) (η ops.size))
    {id : Nat} {Q : Exit → Act → World → Prop} (hQ : ∀ a w β, RelT β N (τ ops.size) a.tmps → a.defers = a0.defers → Sim base P.globals.size β (η ops.size) w → Step β0 (η 0) w0 β (η ops.size) w → Q .normal a w) : (Code.region id ops true).wp P Q a0 w0 := by
  refine wp_region_any hm ?_
  have key : ∀ (fuel : Nat) (listed : Array Bool) (a : Act) (w : World) (β : Map) (l : Nat), listed.toList.count false = fuel → Inv P base N ops τ η β0 w0 a0.defers listed a w β l → wpAny P .any ops Q fuel listed a w := by
    intro fuel
    induction fuel with
    | zero =>
      intro listed a w β l hc inv
      have hall := fun i hi => count_zero hc i (by rw [inv.lsz]; exact hi)
      refine ⟨?_, ?_⟩
      · cases hrd : Region.ready .any ops listed with
        | nil => rfl
        | cons i rest =>
          exfalso
          have hr : i ∈ Region.ready .any ops listed := by rw [hrd]; simp
          obtain ⟨hun, o, ho, _⟩ := mem_ready.1 hr
          have hi := (Array.getElem?_eq_some_iff.1 ho).1
          have h1 := hall i hi
          rw [Array.getD_eq_getD_getElem?, Array.getElem?_eq_getElem (by rw [inv.lsz]; exact hi)] at hun h1
          simp only [Option.getD_some] at hun h1
          rw [hun] at h1; simp at h1
      · obtain ⟨h1, h2, h3, h4⟩ := inv_end tr hf0 inv hall
        exact hQ a w β h1 h2 h3 h4
    | succ fuel ih =>
      intro listed a w β l hc inv
      refine ⟨fun hrd => ?_, fun i hr => ?_⟩
      · obtain ⟨h1, h2, h3, h4⟩ := inv_end tr hf0 inv (ready_some hd inv.lsz hrd)
        exact hQ a w β h1 h2 h3 h4
      · refine inv_step tr hd hops hf0 inv hr fun a' w' β' l' inv' => ih _ a' w' β' l' ?_ inv'
        obtain ⟨hun, o, ho, _⟩ := mem_ready.1 hr
        have hi := (Array.getElem?_eq_some_iff.1 ho).1
        have h1 : listed.toList[i]? = some false := by
          rw [Array.getElem?_toList]
          rw [Array.getD_eq_getD_getElem?, Array.getElem?_eq_getElem (by rw [inv.lsz]; exact hi)] at hun
          rw [Array.getElem?_eq_getElem (by rw [inv.lsz]; exact hi)]
          exact congrArg some hun
        have := count_set _ _ h1
        rw [Array.toList_setIfInBounds]
        omega
  obtain ⟨l, k1, k2, k3, k4⟩ := next_loud (P := P) (base := base) (τ := τ) (η := η) (ops := ops) ops.size 0 (by omega)
  have hrep : ∀ i, (Array.replicate ops.size false).getD i false = false := fun i => by
    rw [Array.getD_eq_getD_getElem?]
    by_cases h : i < ops.size
    · simp [h]
    · rw [Array.getElem?_eq_none (by simp; omega)]; rfl
  have hp : η 0 <+: η l := by
    have := calm tr (j := 0) l (by omega) fun j h1 h2 => k3 j h1 (by omega)
    rwa [Nat.zero_add] at this
  have hs1 : Sim base P.globals.size β0 (η 0) { w0 with drawn := w0.drawn + 1 } := Sim.of_heap (w := w0) rfl hs
  refine key ops.size _ a0 _ β0 l (by simp [List.count_replicate]) ⟨by simp, fun j o _ hj => by rw [hrep] at hj; simp at hj, hT.1, rfl, fun t ht => ⟨0, Nat.zero_le _, .inl rfl, fun j o _ _ _ => hrep j, hT.2 t ht⟩, k2, ?_, fun i hi hl => by rw [hrep] at hl; simp at hl, fun i hi _ _ j h1 h2 => k3 j (by omega) h2,
    sim_beyond hp hs1 fun m h1 h2 => hf0 m h1 (Nat.lt_of_lt_of_le h2 (len_le tr k2 (Nat.le_refl _))), fun i hi _ m h1 h2 => hf0 m (Nat.le_trans (len_le tr (Nat.zero_le _) (by omega)) h1) (Nat.lt_of_lt_of_le h2 (len_le tr (by omega) (Nat.le_refl _))),
    fun m h1 h2 => hf0 m (Nat.le_trans (len_le tr (Nat.zero_le _) k2) h1) h2, fun _ _ h => h, fun _ _ h => .inl h, Nat.le_refl _, rfl, rfl, rfl, fun _ _ _ => rfl, fun k hk h0 => by rw [look_prefix' hp hk]; exact h0⟩
  rcases k4 with h | h
  · exact .inl h
  · exact .inr ⟨h, hrep l⟩
end
end Go.Proofs.YtkgdkommahgakaaDoor.Abs
