/- The abstract machine: **a run there tells what the machine's own call does.** -/
import Derived.Test.YtkgdkommahgakaaDoorAbs12
namespace Go.Proofs.YtkgdkommahgakaaDoor.Abs
open Go Go.RowKit
set_option linter.unusedVariables false
set_option linter.unusedSimpArgs false

/-- What stands in a result. -/
def resSem (tmps : Array Value) (r : ResultVar) : Sem Value := match r with | .tmp t => pure (tmps.getD t undef) | .cell a t => do loadVar t (← asAddr (tmps.getD a undef))
def CallSound (P : Program) (base : Nat) (f : FuncId) (args : List Value) (σ : Heap) (v : Value) (σ' : Heap) : Prop :=
  ∀ (β : Map) (w : World) (cargs : Array Value), RelL β args cargs.toList → Sim base P.globals.size β σ w → Fresh β σ σ' →
    Calls P f cargs w fun e w' => ∃ β' v', e = .returned v' ∧ Rel β' v v' ∧ Sim base P.globals.size β' σ' w' ∧ Step β σ w β' σ' w'
def CodeGoal (P : Program) (base N : Nat) (T : Tm) (σ : Heap) (e : AExit) (T' : Tm) (σ' : Heap) (goal : (Exit → Act → World → Prop) → Act → World → Prop) : Prop :=
  ∀ (β : Map) (a : Act) (w : World), RelT β N T a.tmps → Sim base P.globals.size β σ w → Fresh β σ σ' → ∀ (Q : Exit → Act → World → Prop),
    (∀ a' w' β', RelT β' N T' a'.tmps → a'.defers = a.defers → Sim base P.globals.size β' σ' w' → Step β σ w β' σ' w' → Q e.conc a' w') → goal Q a w
def StepAt (P : Program) (base : Nat) (ops : Array Oper) (i : Nat) (o : Oper) (T : Tm) (σ : Heap) (T' : Tm) (σ' : Heap) : Prop :=
  (awanted ops T o = some false ∧ T' = putT T o.dst undef ∧ σ' = σ) ∨
    (awanted ops T o = some true ∧ ∃ v, T' = putT T o.dst v ∧ OpSound P base o T σ v σ' ∧ σ.length ≤ σ'.length ∧ ((∃ c, o.op = .call c) ∨ aop P (aev P T) σ o.op = some (v, σ')) ∧
      ((heapFree o.op = true ∧ σ' = σ ∧ ∀ σ1, OpSound P base o T σ1 v σ1) ∨ (heapFree o.op = false ∧ (σ <+: σ' ∨ loudOk ops i = true ∨ Late ops T))))
def Sound (P : Program) (base : Nat) : Job → Heap → Out → Heap → Prop
  | .code N c T, σ, .ex e T', σ' => (okCode N c = true → CodeGoal P base N T σ e T' σ' (Code.wp P c)) ∧
      ∀ c', c = .loop c' → okCode N c' = true → ∃ n, CodeGoal P base N T σ e T' σ' fun Q => Code.rounds P c' Q n
  | .ops N ops k l T, σ, .ex _ T', σ' => l = ops.toList.drop k → ops.all (okOper N) = true → CodeGoal P base N T σ .normal T' σ' fun Q => wpOps P ops Q (List.range' k l.length)
  | .draw N ops k l T, σ, .ex _ T', σ' => l = ops.toList.drop k → ∃ (τ : Nat → Tm) (η : Nat → Heap), τ k = T ∧ η k = σ ∧ τ (k + l.length) = T' ∧ η (k + l.length) = σ' ∧ ∀ i o, k ≤ i → ops[i]? = some o → StepAt P base ops i o (τ i) (η i) (τ (i + 1)) (η (i + 1))
  | .call f args, σ, .val v, σ' => CallSound P base f args σ v σ'
  | _, _, _, _ => True

section
variable {P : Program} {base : Nat}

theorem fresh_left {β : Map} {σ σ1 σ2 : Heap} (h : Fresh β σ σ2) (h2 : σ1.length ≤ σ2.length) : Fresh β σ σ1 := fun n h3 h4 => h n h3 (Nat.lt_of_lt_of_le h4 h2)
theorem fresh_right {β β1 : Map} {σ σ1 σ2 : Heap} {w w1 : World} (h : Fresh β σ σ2) (st : Step β σ w β1 σ1 w1) : Fresh β1 σ1 σ2 := fun n h3 h4 => by
  cases h5 : β1 n with
  | none => rfl
  | some cb =>
    rcases st.dom n cb h5 with h6 | ⟨_, _, h7, _⟩
    · rw [h n (Nat.le_trans st.len h3) h4] at h6; simp at h6
    · omega

theorem call_op {o : Oper} {c : Call} {T : Tm} {f : FuncId} {args : List Value} {σ σ' : Heap} {v : Value} (ho : o.op = .call c) (hc : acallee (aev P T) c = some (f, args)) (hen : enterable P f = true) (h : CallSound P base f args σ v σ') : OpSound P base o T σ v σ' := by
  intro β a w hx hs hf next Q hn
  obtain ⟨dst, op, ty, pos, after, guard⟩ := o
  simp only at ho
  subst ho
  obtain ⟨callee, as, ats⟩ := c
  unfold acallee at hc
  cases callee with
  | invoke r m => simp at hc
  | builtin b => simp at hc
  | value g =>
    simp only at hc
    have hg := hx g (by simp [Op.operands, Call.operands])
    have has : ∀ x ∈ as.toList, Rel β (aev P T x) (a.eval x) := fun x hm => hx x (by
      simp only [Op.operands, Call.operands]
      simp only [Array.toList_append, List.mem_append]
      exact .inr hm)
    split at hc
    · rename_i g' first captured hgv
      obtain ⟨rfl, rfl⟩ := Prod.mk.inj (Option.some.inj hc)
      rw [hgv] at hg
      obtain ⟨fi, ca, hge, hfi, hca⟩ := hg.func_inv
      have hrel : RelL β (first.toList ++ as.toList.map (aev P T) ++ captured.toList) (fi ++ as.map a.eval ++ ca).toList := by
        simp only [Array.toList_append, Array.toList_map]
        exact (hfi.append (relL_map _ has)).append hca
      unfold enterable at hen
      split at hen
      case h_2 => simp at hen
      rename_i fn hfn
      simp only [Bool.and_eq_true, Bool.not_eq_true'] at hen
      obtain ⟨hbody, hname⟩ := hen
      have hnone : fn.body.isNone = false := by
        cases hb : fn.body with
        | none => rw [hb] at hbody; simp at hbody
        | some => rfl
      have hrun : (execOp a.eval { dst := dst, op := .call { callee := .value g, args := as, argTypes := ats }, type := ty, pos := pos, after := after, guard := guard }).run P w = .ok (.enter g' (fi ++ as.map a.eval ++ ca)) w := by
        simp only [execOp, resolve, Sem.run_bind, Sem.run_pure, Result.andThen_ok, hge, Deferred.ofValue, invoke, callFunc, run_program, hfn, hname, Bool.false_eq_true, if_false, hnone]
      unfold Oper.wp
      rw [hrun, Oper.upon_enter]
      refine (h β w _ hrel hs hf).mono fun e w' hh => ?_
      obtain ⟨β', v', rfl, h1, h2, h3⟩ := hh
      exact hn v' w' β' h1 h2 h3
    · simp at hc

theorem wpOps_cons' {ops : Array Oper} {Q : Exit → Act → World → Prop} {k n : Nat} {o : Oper} {a : Act} {w : World} (ho : ops[k]? = some o) (h : if Region.wanted o (yielded ops a.tmps) = true then o.wp P a w (wpOps P ops Q (List.range' (k + 1) n)) Q else wpOps P ops Q (List.range' (k + 1) n) (a.put o.dst undef) w) :
    wpOps P ops Q (List.range' k (n + 1)) a w := by
  rw [List.range'_succ]
  simp only [wpOps, ho]
  split
  · rename_i hw
    rw [if_pos hw] at h
    exact .inl h
  · rename_i hw
    rw [if_neg hw] at h
    exact h

theorem relT_put {β β' : Map} {N : Nat} {T : Tm} {a : Act} {o : Oper} {v v' : Value} (hsub : ∀ n c, β n = some c → β' n = some c) (h : RelT β N T a.tmps) (hv : Rel β' v v') : RelT β' N (putT T o.dst v) (a.put o.dst v').tmps := by
  cases hd : o.dst with
  | none => exact ⟨h.1, fun t ht => (h.2 t ht).mono hsub⟩
  | some d =>
    refine ⟨by simp [Act.put, h.1], fun t ht => ?_⟩
    by_cases hdt : t = d
    · subst hdt
      rw [putT_eq]
      have : ((a.put (some t) v').tmps.getD t undef) = v' := by
        simp [Act.put, Array.getD_eq_getD_getElem?, h.1, ht]
      rw [this]
      exact hv
    · rw [putT_ne (by simp; exact fun h => hdt h.symm)]
      have : ((a.put (some d) v').tmps.getD t undef) = a.tmps.getD t undef := by
        simp [Act.put, Array.getD_eq_getD_getElem?, Array.getElem?_setIfInBounds_ne (Ne.symm hdt)]
      rw [this]
      exact (h.2 t ht).mono hsub

theorem looks_lt {N : Nat} {ops : Array Oper} (hops : ops.all (okOper N) = true) {k : Nat} {o : Oper} (ho : ops[k]? = some o) : ∀ t ∈ o.looksAt ops, t < N := fun t ht => by
  have hok : okOper N o = true := Array.all_eq_true_iff_forall_mem.1 hops o (Array.mem_of_getElem? ho)
  unfold Oper.looksAt at ht
  rcases List.mem_append.1 ht with ht | ht
  · obtain ⟨x, hx, hxt⟩ := List.mem_filterMap.1 ht
    cases x <;> simp at hxt
    subst hxt
    simp only [okOper, Bool.and_eq_true] at hok
    have := Array.all_eq_true_iff_forall_mem.1 hok.1 _ (by simpa using hx)
    simpa [okOpnd] using this
  · cases hg : o.guard with
    | none => rw [hg] at ht; simp at ht
    | some g =>
      rw [hg] at ht
      simp only at ht
      cases hgd : (ops[g.1]?).bind (·.dst) with
      | none => rw [hgd] at ht; simp at ht
      | some d =>
        rw [hgd] at ht
        simp only [Option.toList_some, List.mem_singleton] at ht
        subst ht
        obtain ⟨oj, hoj, hdj⟩ := Option.bind_eq_some_iff.1 hgd
        have := Array.all_eq_true_iff_forall_mem.1 hops oj (Array.mem_of_getElem? hoj)
        simp only [okOper, hdj, Bool.and_eq_true, decide_eq_true_eq] at this
        exact this.2

theorem drop_cons {ops : Array Oper} {k : Nat} {o : Oper} {l : List Oper} (h : o :: l = ops.toList.drop k) : ops[k]? = some o ∧ l = ops.toList.drop (k + 1) := by
  constructor
  · have : (ops.toList.drop k)[0]? = some o := by rw [← h]; rfl
    rw [List.getElem?_drop] at this
    simpa using this
  · rw [← List.drop_drop, ← h]
    rfl

/-- One operation, in the text's order. -/
theorem op_goal {N : Nat} {ops : Array Oper} {k n : Nat} {o : Oper} {T T1 : Tm} {σ σ0 σ1 : Heap} {v : Value} (hops : ops.all (okOper N) = true) (ho : ops[k]? = some o) (hw : awanted ops T o = some true) (hsound : OpSound P base o T σ v σ0) (hl : σ0.length ≤ σ1.length)
    (h : CodeGoal P base N (putT T o.dst v) σ0 .normal T1 σ1 fun Q => wpOps P ops Q (List.range' (k + 1) n)) : CodeGoal P base N T σ .normal T1 σ1 fun Q => wpOps P ops Q (List.range' k (n + 1)) := by
  intro β a w hT hs hf Q hQ
  refine wpOps_cons' ho ?_
  rw [wanted_eq hT.1 hops hw fun t ht => hT.2 t (looks_lt hops ho t ht)]
  simp only [if_true]
  refine hsound β a w (fun x hx => aev_rel rfl hs.glob fun t ht => hT.2 t (looks_lt hops ho t ?_)) hs (fresh_left hf hl) _ Q fun v' w' β' hv hs' st => ?_
  · unfold Oper.looksAt
    refine List.mem_append_left _ (List.mem_filterMap.2 ⟨x, hx, ?_⟩)
    rw [ht]
  · refine h β' _ w' (relT_put st.sub hT hv) hs' (fresh_right hf st) Q fun a2 w2 β2 g1 g2 g3 g4 => hQ a2 w2 β2 g1 (g2.trans ?_) g3 (st.trans g4)
    cases hd : o.dst <;> rfl
theorem skip_goal {N : Nat} {ops : Array Oper} {k n : Nat} {o : Oper} {T T1 : Tm} {σ σ1 : Heap} (hops : ops.all (okOper N) = true) (ho : ops[k]? = some o) (hw : awanted ops T o = some false)
    (h : CodeGoal P base N (putT T o.dst undef) σ .normal T1 σ1 fun Q => wpOps P ops Q (List.range' (k + 1) n)) : CodeGoal P base N T σ .normal T1 σ1 fun Q => wpOps P ops Q (List.range' k (n + 1)) := by
  intro β a w hT hs hf Q hQ
  refine wpOps_cons' ho ?_
  rw [wanted_eq hT.1 hops hw fun t ht => hT.2 t (looks_lt hops ho t ht)]
  simp only [Bool.false_eq_true, if_false]
  refine h β _ w (relT_put (fun _ _ h => h) hT (rel_undef β)) hs hf Q fun a2 w2 β2 g1 g2 g3 g4 => hQ a2 w2 β2 g1 (g2.trans ?_) g3 g4
  cases hd : o.dst <;> rfl

/-- What a function hands back. -/
theorem results_ok {N : Nat} {β : Map} {T : Tm} {tmps : Array Value} {σ : Heap} {w : World} (hT : RelT β N T tmps) (hs : Sim base P.globals.size β σ w) : ∀ (rs : List ResultVar) (vs : List Value), (∀ r ∈ rs, okRes N r = true) → rs.mapM (aresult P T σ) = some vs →
    ∃ vs', (rs.mapM (resSem tmps)).run P w = .ok vs' w ∧ RelL β vs vs'
  | [], vs, _, h => by
    simp only [List.mapM_nil, Option.pure_def, Option.some.injEq] at h
    subst h
    exact ⟨[], rfl, .nil⟩
  | r :: rs, vs, hok, h => by
    rw [List.mapM_cons] at h
    simp only [Option.bind_eq_bind, Option.pure_def] at h
    obtain ⟨v, hv, h⟩ := Option.bind_eq_some_iff.1 h
    obtain ⟨vs1, hvs1, h⟩ := Option.bind_eq_some_iff.1 h
    obtain rfl := Option.some.inj h
    obtain ⟨vs', h1, h2⟩ := results_ok hT hs rs vs1 (fun r hr => hok r (by simp [hr])) hvs1
    have hr := hok r (by simp)
    have hone : ∃ v', (resSem tmps r).run P w = .ok v' w ∧ Rel β v v' := by
      cases r with
      | tmp t =>
        simp only [aresult, Option.some.injEq] at hv
        subst hv
        exact ⟨_, rfl, hT.2 t (by simpa [okRes] using hr)⟩
      | cell a t =>
        simp only [aresult] at hv
        obtain ⟨v', h3, h4⟩ := load_ok hs (hT.2 a (by simpa [okRes] using hr)) hv
        refine ⟨v', ?_, h4⟩
        unfold Instr.loadAt at h3
        simp only [resSem, Sem.run_bind] at h3 ⊢
        have hptr := hT.2 a (by simpa [okRes] using hr)
        unfold aload at hv
        split at hv
        · rename_i n o hta
          rw [hta] at hptr
          obtain ⟨cb, _, _, he⟩ := hptr.ptr_inv
          rw [he] at h3 ⊢
          exact h3
        · simp at hv
    obtain ⟨v', h3, h4⟩ := hone
    refine ⟨v' :: vs', ?_, .cons _ _ _ _ h4 h2⟩
    rw [List.mapM_cons]
    simp only [Sem.run_bind, h3, Result.andThen_ok, h1, Sem.run_pure]

theorem call_goal {f : FuncId} {fn : Func} {c : Code} {args : List Value} {T1 : Tm} {σ σ1 : Heap} {e : AExit} {v : Value} (hf : P.funcs[f]? = some fn) (hb : fn.body = some c) (hres : fn.results.all (okRes fn.ntmps) = true) (hn : args.length ≤ fn.ntmps)
    (h : CodeGoal P base fn.ntmps (fun t => args.getD t undef) σ e T1 σ1 (Code.wp P c)) (he : e = .normal ∨ e = .ret) (hr : aresults P T1 σ1 fn.results.toList = some v) : CallSound P base f args σ v σ1 := by
  intro β w cargs hrel hs hfr
  have hlen := hrel.length
  simp only [Array.length_toList] at hlen
  refine calls_of_wp hf hb (h β _ w ⟨by simp; omega, fun t ht => ?_⟩ hs hfr _ fun a' w' β' g1 g2 g3 g4 => ?_)
  · have h1 := hrel.getD t
    have h2 : (cargs ++ Array.replicate (fn.ntmps - cargs.size) undef).getD t undef = cargs.toList.getD t undef := by
      rw [Array.getD_eq_getD_getElem?, List.getD_eq_getElem?_getD, Array.getElem?_toList]
      rcases Nat.lt_or_ge t cargs.size with h3 | h3
      · rw [Array.getElem?_append_left h3]
      · rw [Array.getElem?_append_right h3, Array.getElem?_eq_none h3, Array.getElem?_replicate]
        split <;> rfl
    rw [h2]
    exact h1
  · unfold aresults at hr
    obtain ⟨vs, hvs, hv⟩ := Option.map_eq_some_iff.1 hr
    obtain ⟨vs', h1, h2⟩ := results_ok g1 g3 fn.results.toList vs (fun r hr => Array.all_eq_true_iff_forall_mem.1 hres r (by simpa using hr)) hvs
    have hrun : ∃ v', (results fn a'.tmps).run P w' = .ok v' w' ∧ Rel β' v v' := by
      have hu : results fn a'.tmps = (do let vs ← fn.results.mapM (resSem a'.tmps); pure (if h : vs.size = 1 then vs[0] else .tuple vs)) := rfl
      rw [hu]
      have hm : (fn.results.mapM (resSem a'.tmps)).run P w' = .ok vs'.toArray w' := by
        rw [Array.mapM_eq_mapM_toList]
        simp only [Sem.run_map, h1, Result.andThen_ok]
      simp only [Sem.run_bind, hm, Result.andThen_ok, Sem.run_pure]
      refine ⟨_, rfl, ?_⟩
      subst hv
      cases h2 with
      | nil => exact .tuple _ _ .nil
      | cons x y xs ys hxy hxs =>
        cases hxs with
        | nil => exact hxy
        | cons x2 y2 xs2 ys2 h5 h6 =>
          have : ¬ ((y :: y2 :: ys2).toArray.size = 1) := by simp
          rw [dif_neg this]
          exact .tuple _ _ (.cons _ _ _ _ hxy (.cons _ _ _ _ h5 h6))
    obtain ⟨v', h3, h4⟩ := hrun
    rcases he with rfl | rfl
    · exact ⟨g2, v', h3, β', v', rfl, h4, g3, g4⟩
    · exact ⟨g2, v', h3, β', v', rfl, h4, g3, g4⟩

theorem isLd_some {o : Oper} {a : Tmp} (h : isLd o = some a) : ∃ d t ty pos aft, o = ⟨some d, .load t (.tmp a), ty, pos, aft, none⟩ := by
  unfold isLd at h
  split at h
  · obtain rfl := Option.some.inj h
    exact ⟨_, _, _, _, _, rfl⟩
  · simp at h
theorem isSt_some {o : Oper} {a : Tmp} (h : isSt o = some a) : ∃ t x ty pos aft, o = ⟨none, .store t (.tmp a) x, ty, pos, aft, none⟩ := by
  unfold isSt at h
  split at h
  · obtain rfl := Option.some.inj h
    exact ⟨_, _, _, _, _, rfl⟩
  · simp at h
theorem lateLd_some {ops : Array Oper} {i : Nat} {a : Tmp} (h : lateLd ops i = some a) : ∃ o, ops[i]? = some o ∧ isLd o = some a ∧ stays ops a = true ∧ ∀ j oj, j < i → ops[j]? = some oj → quietOp oj = true := by
  unfold lateLd at h
  split at h
  case h_2 => simp at h
  rename_i o ho
  split at h
  case h_2 => simp at h
  rename_i b hb
  split at h
  case isFalse => simp at h
  rename_i hc
  obtain rfl := Option.some.inj h
  refine ⟨o, ho, hb, hc.1, fun j oj hj hoj => ?_⟩
  have := List.all_eq_true.1 hc.2 j (List.mem_range.2 hj)
  simpa only [hoj] using this
theorem lateSt_some {ops : Array Oper} {e : Nat} {a : Tmp} (h : lateSt ops e = some a) : ∃ o, ops[e]? = some o ∧ isSt o = some a ∧ stays ops a = true ∧ ∀ i oi, ops[i]? = some oi → i ≠ e → (lateLd ops i).isSome = true ∨ heapFree oi.op = true ∨ (i < e ∧ befB ops e i = true) ∨ (e < i ∧ befB ops i e = true) := by
  unfold lateSt at h
  split at h
  case h_2 => simp at h
  rename_i o ho
  split at h
  case h_2 => simp at h
  rename_i b hb
  split at h
  case isFalse => simp at h
  rename_i hc
  obtain rfl := Option.some.inj h
  refine ⟨o, ho, hb, hc.1, fun i oi hoi hne => ?_⟩
  have := List.all_eq_true.1 hc.2 i (List.mem_range.2 (Array.getElem?_eq_some_iff.1 hoi).1)
  simp only [hoi, Bool.or_eq_true, Bool.and_eq_true, decide_eq_true_eq, Nat.beq_eq] at this
  rcases this with (((h | h) | h) | h) | h
  · exact absurd h hne
  · exact .inl h
  · exact .inr (.inl h)
  · exact .inr (.inr (.inl h))
  · exact .inr (.inr (.inr h))
theorem stays_ne {ops : Array Oper} {a : Tmp} (h : stays ops a = true) {i : Nat} {o : Oper} (ho : ops[i]? = some o) : o.dst ≠ some a := by
  have := Array.all_eq_true_iff_forall_mem.1 h o (Array.mem_of_getElem? ho)
  intro hd
  rw [hd] at this
  simp at this
theorem load_keep {P : Program} {σ σ' : Heap} {t : TypeId} {p v : Value} (h : aload P σ t p = some v) (hk : ∀ n b, ptrOf p = some n → look σ n = some b → look σ' n = some b) : aload P σ' t p = some v := by
  unfold aload at h ⊢
  split at h
  · rename_i n o
    obtain ⟨b, hb, h2⟩ := Option.bind_eq_some_iff.1 h
    simp only [hk n b rfl hb, Option.bind_some]
    exact h2
  · simp at h
theorem astore_keep {P : Program} {σ σ' : Heap} {t : TypeId} {p v : Value} (h : astore P σ t p v = some σ') {n : Nat} {b : Blk} (hn : some n ≠ ptrOf p) (hb : look σ n = some b) : look σ' n = some b := by
  unfold astore at h
  split at h
  · rename_i m o
    obtain ⟨b2, hb2, h⟩ := Option.bind_eq_some_iff.1 h
    split at h
    · obtain rfl := Option.some.inj h
      rw [look_set_ne (fun e => hn (by rw [e]; rfl))]
      exact hb
    · simp at h
  · simp at h

/-- All the steps of a drawn region, taken in the text's order: every order does so. -/
theorem steps_sound {N : Nat} {ops : Array Oper} {τ : Nat → Tm} {η : Nat → Heap} (k5 : ∀ i o, ops[i]? = some o → StepAt P base ops i o (τ i) (η i) (τ (i + 1)) (η (i + 1))) (hd : drawOk ops = true) (hops : ops.all (okOper N) = true) (hm : P.follows .mixedOrders = true) {β0 : Map} {a0 : Act} {w0 : World}
    (hT : RelT β0 N (τ 0) a0.tmps) (hs : Sim base P.globals.size β0 (η 0) w0) (hf0 : Fresh β0 (η 0) (η ops.size))
    {id : Nat} {Q : Exit → Act → World → Prop} (hQ : ∀ a w β, RelT β N (τ ops.size) a.tmps → a.defers = a0.defers → Sim base P.globals.size β (η ops.size) w → Step β0 (η 0) w0 β (η ops.size) w → Q .normal a w) : (Code.region id ops true).wp P Q a0 w0 := by
  have fine : ∀ e, loudOk ops e = true → LoudFine P base ops τ η e := fun e he i o ho hne => by
    cases hf : heapFree o.op with
    | true => exact .inl ⟨o, ho, .inr (.inl hf)⟩
    | false => exact .inr (loud_spec' he ho hne hf)
  by_cases hap : ∃ i o, ops[i]? = some o ∧ Late ops (τ i)
  · obtain ⟨i0, o0, ho0, hlo, hdiff⟩ := hap
    have hi0 := (Array.getElem?_eq_some_iff.1 ho0).1
    -- what the region does not write stays
    have stay1 : ∀ a, stays ops a = true → ∀ d, d ≤ ops.size → τ d a = τ 0 a := by
      intro a ha d
      induction d with
      | zero => intro _; rfl
      | succ d ih =>
        intro hdl
        obtain ⟨o, ho⟩ : ∃ o, ops[d]? = some o := ⟨_, Array.getElem?_eq_getElem (by omega)⟩
        rw [← ih (by omega)]
        rcases k5 d o ho with ⟨_, h, _⟩ | ⟨_, v, h, _⟩ <;> rw [h, putT_ne (stays_ne ha ho)]
    -- a quiet step leaves the heap
    have quiet1 : ∀ i o, ops[i]? = some o → quietOp o = true → η (i + 1) = η i := fun i o ho hq => by
      rcases k5 i o ho with ⟨_, _, h⟩ | ⟨_, v, _, _, _, ha, h⟩
      · exact h
      · rcases h with ⟨_, h, _⟩ | ⟨hf, _⟩
        · exact h
        · unfold quietOp at hq
          rw [hf, Bool.false_or] at hq
          obtain ⟨a, hq⟩ := Option.isSome_iff_exists.1 hq
          obtain ⟨d, t, ty, pos, aft, rfl⟩ := isLd_some hq
          rcases ha with ⟨c, hc⟩ | ha
          · simp at hc
          · simp only [aop, Option.map_eq_some_iff, Prod.mk.injEq] at ha
            obtain ⟨_, _, _, h⟩ := ha
            exact h.symm
    have steady : ∀ i a, lateLd ops i = some a → FreeAt P base ops τ η i := fun i a hla => by
      obtain ⟨o, ho, hld, hst, hq⟩ := lateLd_some hla
      have hi := (Array.getElem?_eq_some_iff.1 ho).1
      obtain ⟨d, t, ty, pos, aft, rfl⟩ := isLd_some hld
      refine ⟨_, ho, .inr (.inr ⟨quiet1 i _ ho (by simp [quietOp, hld]), fun j hj => ?_, ?_⟩)⟩
      · obtain ⟨oj, hoj⟩ : ∃ oj, ops[j]? = some oj := ⟨_, Array.getElem?_eq_getElem (by omega)⟩
        rw [quiet1 j oj hoj (hq j oj hj hoj)]
        exact List.prefix_refl _
      · rcases k5 i _ ho with ⟨hw, _⟩ | ⟨_, v, hτ, _, _, ha, _⟩
        · simp [awanted] at hw
        rcases ha with ⟨c, hc⟩ | ha
        · simp at hc
        simp only [aop, Option.map_eq_some_iff, Prod.mk.injEq] at ha
        obtain ⟨v', ha, rfl, _⟩ := ha
        refine ⟨v', hτ, fun j hij hj => opSound_of_aop ?_⟩
        have key : ∀ d, i + d ≤ ops.size → aload P (η (i + d)) t (aev P (τ i) (.tmp a)) = some v' := by
          intro d
          induction d with
          | zero => intro _; exact ha
          | succ d ih =>
            intro hdl
            obtain ⟨oj, hoj⟩ : ∃ oj, ops[i + d]? = some oj := ⟨_, Array.getElem?_eq_getElem (by omega)⟩
            refine load_keep (ih (by omega)) fun n b hn hb => ?_
            rw [show i + (d + 1) = i + d + 1 by omega]
            have hcase := List.all_eq_true.1 hlo (i + d) (List.mem_range.2 (by omega))
            simp only [hoj, Bool.or_eq_true] at hcase
            rcases hcase with hc | hc
            · rw [quiet1 _ oj hoj hc]; exact hb
            · obtain ⟨b', hb'⟩ := Option.isSome_iff_exists.1 hc
              obtain ⟨oe, hoe, hse, hste, _⟩ := lateSt_some hb'
              rw [hoj] at hoe
              obtain rfl := Option.some.inj hoe
              obtain ⟨t2, x2, ty2, pos2, aft2, rfl⟩ := isSt_some hse
              rcases k5 _ _ hoj with ⟨hw, _⟩ | ⟨_, v2, _, _, _, ha2, _⟩
              · simp [awanted] at hw
              rcases ha2 with ⟨c, hc⟩ | ha2
              · simp at hc
              simp only [aop, Option.map_eq_some_iff, Prod.mk.injEq] at ha2
              obtain ⟨σ2, ha2, _, h2⟩ := ha2
              rw [← h2]
              refine astore_keep ha2 ?_ hb
              rw [← hn]
              have h5 := hdiff a (List.mem_filterMap.2 ⟨i, List.mem_range.2 hi, hla⟩) b' (List.mem_filterMap.2 ⟨i + d, List.mem_range.2 (by omega), hb'⟩)
              rw [stay1 a hst i0 (by omega), stay1 b' hste i0 (by omega)] at h5
              show ptrOf (τ i a) ≠ ptrOf (τ (i + d) b')
              rw [stay1 a hst i (by omega), stay1 b' hste (i + d) (by omega)]
              exact h5
        have := key (j - i) (by omega)
        rw [show i + (j - i) = j by omega] at this
        simp only [aop, this, Option.map_some]
    refine draw_sound ⟨fun i o ho => ?_⟩ hd hops hm hT hs hf0 hQ
    rcases k5 i o ho with h | ⟨hw, v, h7, h8, h9, _, h10⟩
    · exact .inl h
    · refine .inr ⟨hw, v, h7, h8, h9, ?_⟩
      rcases h10 with h10 | ⟨h10, h11⟩
      · exact .inl h10
      · refine .inr ⟨h10, ?_⟩
        have hcase := List.all_eq_true.1 hlo i (List.mem_range.2 (Array.getElem?_eq_some_iff.1 ho).1)
        simp only [ho, Bool.or_eq_true] at hcase
        rcases hcase with hc | hc
        · rw [quiet1 i o ho hc]; exact .inl (List.prefix_refl _)
        · obtain ⟨b', hb'⟩ := Option.isSome_iff_exists.1 hc
          obtain ⟨oe, hoe, _, _, hall⟩ := lateSt_some hb'
          refine .inr fun i' o' ho' hne => ?_
          rcases hall i' o' ho' hne with h | h | h
          · obtain ⟨a, ha⟩ := Option.isSome_iff_exists.1 h
            exact .inl (steady i' a ha)
          · exact .inl ⟨o', ho', .inr (.inl h)⟩
          · exact .inr h
  · refine draw_sound ⟨fun i o ho => ?_⟩ hd hops hm hT hs hf0 hQ
    rcases k5 i o ho with h | ⟨hw, v, h7, h8, h9, _, h10⟩
    · exact .inl h
    · refine .inr ⟨hw, v, h7, h8, h9, ?_⟩
      rcases h10 with h10 | ⟨h10, h11⟩
      · exact .inl h10
      · refine .inr ⟨h10, ?_⟩
        rcases h11 with h11 | h11 | h11
        · exact .inl h11
        · exact .inr (fine i h11)
        · exact absurd ⟨i, o, ho, h11⟩ hap

/-- **A run of the abstract machine tells what the machine's own calls do.** -/
theorem run_sound (hm : P.follows .mixedOrders = true) {X : Ext} (hX : ∀ f args σ v σ', X f args σ v σ' → CallSound P base f args σ v σ' ∧ σ.length ≤ σ'.length) {j : Job} {σ σ' : Heap} {o : Out} (h : Run P X j σ o σ') : Sound P base j σ o σ' := by
  have hXl : ∀ f args σ v σ', X f args σ v σ' → σ.length ≤ σ'.length := fun f args σ v σ' h => (hX f args σ v σ' h).2
  induction h with
  | skip => exact ⟨fun _ β a w hT hs hf Q hQ => wp_skip (hQ a w β hT rfl hs (Step.refl _ _ _)), fun c' h => by simp at h⟩
  | exit => exact ⟨fun _ β a w hT hs hf Q hQ => wp_exit (hQ a w β hT rfl hs (Step.refl _ _ _)), fun c' h => by simp at h⟩
  | ret => exact ⟨fun _ β a w hT hs hf Q hQ => wp_ret (hQ a w β hT rfl hs (Step.refl _ _ _)), fun c' h => by simp at h⟩
  | @seqN N ca cb T T1 σ σ1 o σ2 h1 h2 ih1 ih2 =>
    cases o with
    | val v => trivial
    | ex e T' =>
      refine ⟨fun hok β a w hT hs hf Q hQ => ?_, fun c' h => by simp at h⟩
      simp only [okCode, Bool.and_eq_true] at hok
      refine wp_seq (ih1.1 hok.1 β a w hT hs (fresh_left hf (run_len hXl h2)) _ fun a1 w1 β1 g1 g2 g3 g4 => ?_)
      exact ih2.1 hok.2 β1 a1 w1 g1 g3 (fresh_right hf g4) Q fun a2 w2 β2 k1 k2 k3 k4 => hQ a2 w2 β2 k1 (k2.trans g2) k3 (g4.trans k4)
  | @seqX N ca cb T T1 σ σ1 e h1 he ih1 =>
    refine ⟨fun hok β a w hT hs hf Q hQ => ?_, fun c' h => by simp at h⟩
    simp only [okCode, Bool.and_eq_true] at hok
    refine wp_seq (ih1.1 hok.1 β a w hT hs hf _ fun a1 w1 β1 g1 g2 g3 g4 => ?_)
    have := hQ a1 w1 β1 g1 g2 g3 g4
    cases e with
    | normal => exact absurd rfl he
    | exit id => exact this
    | ret => exact this
  | @cond N c x y T σ o σ' t hc h1 ih1 =>
    cases o with
    | val v => trivial
    | ex e T' =>
      refine ⟨fun hok β a w hT hs hf Q hQ => ?_, fun c' h => by simp at h⟩
      simp only [okCode, Bool.and_eq_true] at hok
      have hcr : Rel β (aev P T c) (a.eval c) := aev_rel rfl hs.glob fun t ht => hT.2 t (by
        have := hok.1.1
        rw [ht] at this
        simpa [okOpnd] using this)
      rw [hc] at hcr
      refine wp_cond hcr.bool_inv ?_
      have hok2 : okCode N (if t = true then x else y) = true := by cases t <;> simp [hok.2, hok.1.2]
      exact ih1.1 hok2 β a w hT hs hf Q hQ
  | @block N id c T T1 σ σ1 e h1 ih1 =>
    refine ⟨fun hok β a w hT hs hf Q hQ => ?_, fun c' h => by simp at h⟩
    simp only [okCode] at hok
    refine wp_block (ih1.1 hok β a w hT hs hf _ fun a1 w1 β1 g1 g2 g3 g4 => ?_)
    have := hQ a1 w1 β1 g1 g2 g3 g4
    cases e with
    | normal => exact this
    | ret => exact this
    | exit i =>
      simp only [AExit.conc, Exit.inBlock]
      simp only [AExit.leave] at this
      split
      · rename_i hi
        rw [if_pos hi] at this
        exact this
      · rename_i hi
        rw [if_neg hi] at this
        exact this
  | @loopN N c T T1 σ σ1 o σ2 h1 h2 ih1 ih2 =>
    cases o with
    | val v => trivial
    | ex e T' =>
      have rounds : ∀ c', Code.loop c = .loop c' → okCode N c' = true → ∃ n, CodeGoal P base N T σ e T' σ2 fun Q => Code.rounds P c' Q n := by
        intro c' hc' hok
        simp only [Code.loop.injEq] at hc'
        subst hc'
        obtain ⟨n, hn⟩ := ih2.2 c rfl hok
        refine ⟨n + 1, fun β a w hT hs hf Q hQ => ?_⟩
        show Code.rounds P c Q (n + 1) a w
        rw [rounds_succ]
        refine ih1.1 hok β a w hT hs (fresh_left hf (run_len hXl h2)) _ fun a1 w1 β1 g1 g2 g3 g4 => ?_
        exact hn β1 a1 w1 g1 g3 (fresh_right hf g4) Q fun a2 w2 β2 k1 k2 k3 k4 => hQ a2 w2 β2 k1 (k2.trans g2) k3 (g4.trans k4)
      refine ⟨fun hok β a w hT hs hf Q hQ => ?_, rounds⟩
      obtain ⟨n, hn⟩ := rounds c rfl (by simpa [okCode] using hok)
      exact wp_loop_rounds n (hn β a w hT hs hf Q hQ)
  | @loopX N c T T1 σ σ1 e h1 he ih1 =>
    have rounds : ∀ c', Code.loop c = .loop c' → okCode N c' = true → ∃ n, CodeGoal P base N T σ e T1 σ1 fun Q => Code.rounds P c' Q n := by
      intro c' hc' hok
      simp only [Code.loop.injEq] at hc'
      subst hc'
      refine ⟨1, fun β a w hT hs hf Q hQ => ?_⟩
      show Code.rounds P c Q (0 + 1) a w
      rw [rounds_succ]
      refine ih1.1 hok β a w hT hs hf _ fun a1 w1 β1 g1 g2 g3 g4 => ?_
      have := hQ a1 w1 β1 g1 g2 g3 g4
      cases e with
      | normal => exact absurd rfl he
      | exit id => exact this
      | ret => exact this
    refine ⟨fun hok β a w hT hs hf Q hQ => ?_, rounds⟩
    obtain ⟨n, hn⟩ := rounds c rfl (by simpa [okCode] using hok)
    exact wp_loop_rounds n (hn β a w hT hs hf Q hQ)
  | @region N id ops T T1 σ σ1 h1 ih1 =>
    refine ⟨fun hok β a w hT hs hf Q hQ => ?_, fun c' h => by simp at h⟩
    simp only [okCode] at hok
    refine wp_region ?_
    have := ih1 (by simp) hok β a w hT hs hf Q hQ
    rw [List.range_eq_range']
    simpa using this
  | @regionDraw N id ops T T1 σ σ1 hd h1 ih1 =>
    refine ⟨fun hok β a w hT hs hf Q hQ => ?_, fun c' h => by simp at h⟩
    simp only [okCode] at hok
    obtain ⟨τ, η, k1, k2, k3, k4, k5⟩ := ih1 (by simp)
    have hz : 0 + ops.toList.length = ops.size := by simp
    rw [hz] at k3 k4
    subst k1; subst k2; subst k3; subst k4
    exact steps_sound (fun i o ho => k5 i o (Nat.zero_le _) ho) hd hok hm hT hs hf fun a2 w2 β2 g1 g2 g3 g4 => hQ a2 w2 β2 g1 g2 g3 g4
  | opsNil => exact fun _ _ β a w hT hs hf Q hQ => hQ a w β hT rfl hs (Step.refl _ _ _)
  | opsSkip hw h1 ih1 =>
    intro hl hops
    obtain ⟨ho, hl2⟩ := drop_cons hl
    exact skip_goal hops ho hw (ih1 hl2 hops)
  | opsStep hw hv h1 ih1 =>
    intro hl hops
    obtain ⟨ho, hl2⟩ := drop_cons hl
    exact op_goal hops ho hw (opSound_of_aop hv) (run_len hXl h1) (ih1 hl2 hops)
  | opsCall hw ho' hc hen hv h1 ihv ih1 =>
    intro hl hops
    obtain ⟨ho, hl2⟩ := drop_cons hl
    exact op_goal hops ho hw (call_op ho' hc hen ihv) (run_len hXl h1) (ih1 hl2 hops)
  | @drawNil N ops k T σ => exact fun _ => ⟨fun _ => T, fun _ => σ, rfl, rfl, rfl, rfl, fun i o hi ho => by
      rename_i hl
      have h1 : ops.size ≤ k := by
        have := congrArg List.length hl
        simp at this
        omega
      have h2 := (Array.getElem?_eq_some_iff.1 ho).1
      omega⟩
  | @drawSkip N ops k o l T σ T1 σ1 hw h1 ih1 =>
    intro hl
    obtain ⟨ho, hl2⟩ := drop_cons hl
    obtain ⟨τ, η, k1, k2, k3, k4, k5⟩ := ih1 hl2
    refine ⟨fun i => if i ≤ k then T else τ i, fun i => if i ≤ k then σ else η i, by simp, by simp, ?_, ?_, fun i o' hi ho' => ?_⟩
    · show (if k + (l.length + 1) ≤ k then T else τ (k + (l.length + 1))) = T1
      rw [if_neg (by omega), ← k3, show k + (l.length + 1) = k + 1 + l.length by omega]
    · show (if k + (l.length + 1) ≤ k then σ else η (k + (l.length + 1))) = σ1
      rw [if_neg (by omega), ← k4, show k + (l.length + 1) = k + 1 + l.length by omega]
    · by_cases hik : i = k
      · subst hik
        rw [ho] at ho'
        obtain rfl := Option.some.inj ho'
        simp only [Nat.le_refl, if_true, show ¬ (i + 1 ≤ i) by omega, if_false, k1, k2]
        exact .inl ⟨hw, rfl, rfl⟩
      · simp only [show ¬ (i ≤ k) by omega, if_false, show ¬ (i + 1 ≤ k) by omega]
        exact k5 i o' (by omega) ho'
  | @drawStep N ops k o l T σ T1 σ1 v σ0 hw hv hq h1 ih1 =>
    intro hl
    obtain ⟨ho, hl2⟩ := drop_cons hl
    obtain ⟨τ, η, k1, k2, k3, k4, k5⟩ := ih1 hl2
    refine ⟨fun i => if i ≤ k then T else τ i, fun i => if i ≤ k then σ else η i, by simp, by simp, ?_, ?_, fun i o' hi ho' => ?_⟩
    · show (if k + (l.length + 1) ≤ k then T else τ (k + (l.length + 1))) = T1
      rw [if_neg (by omega), ← k3, show k + (l.length + 1) = k + 1 + l.length by omega]
    · show (if k + (l.length + 1) ≤ k then σ else η (k + (l.length + 1))) = σ1
      rw [if_neg (by omega), ← k4, show k + (l.length + 1) = k + 1 + l.length by omega]
    · by_cases hik : i = k
      · subst hik
        rw [ho] at ho'
        obtain rfl := Option.some.inj ho'
        simp only [Nat.le_refl, if_true, show ¬ (i + 1 ≤ i) by omega, if_false, k1, k2]
        refine .inr ⟨hw, v, rfl, opSound_of_aop hv, aop_len hv, .inr hv, ?_⟩
        cases hfree : heapFree o.op with
        | true =>
          obtain ⟨he, hany⟩ := aop_free hfree hv
          exact .inl ⟨rfl, he, fun σ1 => opSound_of_aop (hany σ1)⟩
        | false =>
          rcases hq with hq | hq
          · rw [hfree] at hq; simp at hq
          · exact .inr ⟨rfl, hq⟩
      · simp only [show ¬ (i ≤ k) by omega, if_false, show ¬ (i + 1 ≤ k) by omega]
        exact k5 i o' (by omega) ho'
  | @drawCall N ops k o l T σ T1 σ1 v σ0 c f args hw ho' hc hen hv hq h1 ihv ih1 =>
    intro hl
    obtain ⟨ho, hl2⟩ := drop_cons hl
    obtain ⟨τ, η, k1, k2, k3, k4, k5⟩ := ih1 hl2
    refine ⟨fun i => if i ≤ k then T else τ i, fun i => if i ≤ k then σ else η i, by simp, by simp, ?_, ?_, fun i o' hi ho'' => ?_⟩
    · show (if k + (l.length + 1) ≤ k then T else τ (k + (l.length + 1))) = T1
      rw [if_neg (by omega), ← k3, show k + (l.length + 1) = k + 1 + l.length by omega]
    · show (if k + (l.length + 1) ≤ k then σ else η (k + (l.length + 1))) = σ1
      rw [if_neg (by omega), ← k4, show k + (l.length + 1) = k + 1 + l.length by omega]
    · by_cases hik : i = k
      · subst hik
        rw [ho] at ho''
        obtain rfl := Option.some.inj ho''
        simp only [Nat.le_refl, if_true, show ¬ (i + 1 ≤ i) by omega, if_false, k1, k2]
        refine .inr ⟨hw, v, rfl, call_op ho' hc hen ihv, run_len hXl hv, .inl ⟨c, ho'⟩, .inr ⟨?_, hq⟩⟩
        rw [ho']
        obtain ⟨callee, as, ats⟩ := c
        unfold acallee at hc
        cases callee with
        | value g => rfl
        | invoke r m => simp at hc
        | builtin b => simp at hc
      · simp only [show ¬ (i ≤ k) by omega, if_false, show ¬ (i + 1 ≤ k) by omega]
        exact k5 i o' (by omega) ho''
  | call hf hb hok hres hn h1 he hr ih1 => exact call_goal hf hb hres hn (ih1.1 hok) he hr
  | ext h => exact (hX _ _ _ _ _ h).1
end
end Go.Proofs.YtkgdkommahgakaaDoor.Abs
