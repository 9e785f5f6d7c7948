/- The abstract machine: the simplifier's rules by which 'vc' is worked out, from the front on. -/
import Derived.Test.YtkgdkommahgakaaDoorAbs14
import Derived.IntWalk
import Derived.Attr
namespace Go.Proofs.YtkgdkommahgakaaDoor.Abs
open Go Go.RowKit
set_option linter.unusedVariables false
set_option linter.unusedSimpArgs false

/-- A test: what each answer asks. -/
def fork (p : Bool) (A B : Prop) : Prop := (p = true → A) ∧ (p = false → B)
def onBool (v : Value) (K : Bool → Prop) : Prop := ∃ t, v = .bool t ∧ K t
def thus2 {α β : Type} (o : Option (α × β)) (K : α → β → Prop) : Prop := ∃ a b, o = some (a, b) ∧ K a b
theorem thus2_some {α β : Type} (a : α) (b : β) (K : α → β → Prop) : thus2 (some (a, b)) K = K a b := by
  apply propext
  constructor
  · rintro ⟨a', b', h1, h2⟩
    obtain ⟨rfl, rfl⟩ := Prod.mk.inj (Option.some.inj h1)
    exact h2
  · exact fun h => ⟨a, b, rfl, h⟩
theorem thus2_eq {α β : Type} (o : Option (α × β)) (K : α → β → Prop) : (thus o fun p => K p.1 p.2) = thus2 o K := by
  apply propext
  constructor
  · rintro ⟨⟨a, b⟩, h1, h2⟩
    exact ⟨a, b, h1, h2⟩
  · rintro ⟨a, b, h1, h2⟩
    exact ⟨(a, b), h1, h2⟩
/-- A value's cells, as a list. -/
def cl (v : Value) : List Value := v.cells.toList
def lone (v : Value) : Bool := (cl v).all (·.oneCell')
theorem cl_size (v : Value) : v.cells.size = (cl v).length := by simp [cl]
theorem lone_eq (v : Value) : v.cells.all (·.oneCell') = lone v := by simp [lone, cl]
/-- A mark: by it a congruence of the simplifier's is always taken, and it does not look behind what stands still. -/
def here {α : Type} (a : α) : α := a
theorem here_eq {α : Type} (a : α) : here a = a := eq_of_heq HEq.rfl
theorem fork_true (A B : Prop) : fork true A B = A := by simp [fork]
theorem fork_false (A B : Prop) : fork false A B = B := by simp [fork]
theorem onBool_bool (t : Bool) (K : Bool → Prop) : onBool (.bool t) K = K t := by simp [onBool]
theorem thus_map {α β : Type} (o : Option α) (f : α → β) (K : β → Prop) : thus (o.map f) K = thus o fun a => K (f a) := by cases o <;> simp [thus]
theorem thus_congr {α : Type} {o o' : Option α} {K : α → Prop} (h : here o = o') : thus o K = thus o' K := by rw [← h]; rfl
theorem thus2_congr {α β : Type} {o o' : Option (α × β)} {K : α → β → Prop} (h : here o = o') : thus2 o K = thus2 o' K := by rw [← h]; rfl
theorem fork_congr {p p' : Bool} {A B : Prop} (h : here p = p') : fork p A B = fork p' A B := by rw [← h]; rfl
theorem onBool_congr {v v' : Value} {K : Bool → Prop} (h : here v = v') : onBool v K = onBool v' K := by rw [← h]; rfl
theorem CW_congr {P : Program} {X : Ext} {f : FuncId} {args args' : List Value} {σ σ' : Heap} {K : Value → Heap → Prop} (h : here args = args') (h2 : here σ = σ') : CW P X f args σ K = CW P X f args' σ' K := by rw [← h, ← h2]; rfl
theorem LW_congr {P : Program} {X : Ext} {N : Nat} {c : Code} {T : Tm} {σ σ' : Heap} {Q : AExit → Tm → Heap → Prop} (h2 : here σ = σ') : LW P X N c T σ Q = LW P X N c T σ' Q := by rw [← h2]; rfl
theorem fork_dec {φ : Prop} [Decidable φ] {A B : Prop} (h : φ → A) (h' : ¬ φ → B) : fork (decide φ) A B := by
  constructor <;> intro hh <;> simp_all
theorem fork_intro {p : Bool} {A B : Prop} (h : p = true → A) (h' : p = false → B) : fork p A B := ⟨h, h'⟩
theorem fork_pos {p : Bool} {A B : Prop} (h : p = true) : fork p A B = A := by rw [h, fork_true]
theorem fork_neg {p : Bool} {A B : Prop} (h : p = false) : fork p A B = B := by rw [h, fork_false]

theorem CW.mono {P : Program} {X : Ext} {f : FuncId} {args : List Value} {σ : Heap} {K K' : Value → Heap → Prop} (h : CW P X f args σ K) (hk : ∀ v σ', K v σ' → K' v σ') : CW P X f args σ K' := by
  obtain ⟨h1, v, σ', h2, h3⟩ := h
  exact ⟨h1, v, σ', h2, hk _ _ h3⟩
theorem WC.mono {P : Program} {X : Ext} {N : Nat} {c : Code} {T : Tm} {σ : Heap} {Q Q' : AExit → Tm → Heap → Prop} (h : WC P X N c T σ Q) (hk : ∀ e T' σ', Q e T' σ' → Q' e T' σ') : WC P X N c T σ Q' := by
  obtain ⟨e, T', σ', h2, h3⟩ := h
  exact ⟨e, T', σ', h2, hk _ _ _ h3⟩

/-- A loop: a number that falls from round to round, and what holds at the head. -/
theorem LW_ind {P : Program} {X : Ext} {N : Nat} {c : Code} {Q : AExit → Tm → Heap → Prop} (I : Nat → Tm → Heap → Prop)
    (h : ∀ k T σ, I k T σ → vc P X N c T σ fun e T' σ' => match e with | .normal => ∃ j, j < k ∧ I j T' σ' | e => Q e T' σ') : ∀ k T σ, I k T σ → LW P X N c T σ Q := by
  intro k T σ hI hd
  revert T σ
  induction k using Nat.strongRecOn with
  | _ k ih =>
    intro T σ hI
    obtain ⟨e, T', σ', h1, h2⟩ := vc_run hd (h k T σ hI)
    cases e with
    | normal =>
      obtain ⟨j, hj, h2⟩ := h2
      obtain ⟨e, T2, σ2, h3, h4⟩ := ih j hj T' σ' h2
      exact ⟨e, T2, σ2, .loopN h1 h3, h4⟩
    | exit id => exact ⟨_, _, _, .loopX h1 (by simp), h2⟩
    | ret => exact ⟨_, _, _, .loopX h1 (by simp), h2⟩

def rounds (I : Nat → Tm → Heap → Prop) (k : Nat) (Q : AExit → Tm → Heap → Prop) : AExit → Tm → Heap → Prop
  | .normal, T, σ => ∃ j, j < k ∧ I j T σ
  | e, T, σ => Q e T σ
theorem LW_run {P : Program} {X : Ext} {N : Nat} {c : Code} {Q : AExit → Tm → Heap → Prop} {T : Tm} {σ : Heap} (I : Nat → Tm → Heap → Prop) (k : Nat) (hI : I k T σ)
    (h : ∀ k T σ, I k T σ → vc P X N c T σ (rounds I k Q)) : LW P X N c T σ Q := by
  refine LW_ind I (fun k T σ hk => ?_) k T σ hI
  have := h k T σ hk
  have e : rounds I k Q = fun e T' σ' => (match e with | .normal => ∃ j, j < k ∧ I j T' σ' | e => Q e T' σ') := by
    funext e T σ
    cases e <;> rfl
  rw [e] at this
  exact this

def unroll (P : Program) (X : Ext) (N : Nat) (c : Code) (Q : AExit → Tm → Heap → Prop) : AExit → Tm → Heap → Prop
  | .normal, T, σ => LW P X N c T σ Q
  | e, T, σ => Q e T σ
/-- One round of a loop. -/
theorem LW_unroll {P : Program} {X : Ext} {N : Nat} {c : Code} {Q : AExit → Tm → Heap → Prop} {T : Tm} {σ : Heap} (h : vc P X N c T σ (unroll P X N c Q)) : LW P X N c T σ Q := fun hd => by
  obtain ⟨e, T', σ', h1, h2⟩ := vc_run hd h
  cases e with
  | normal =>
    obtain ⟨e, T2, σ2, h3, h4⟩ := h2 hd
    exact ⟨e, T2, σ2, .loopN h1 h3, h4⟩
  | exit id => exact ⟨_, _, _, .loopX h1 (by simp), h2⟩
  | ret => exact ⟨_, _, _, .loopX h1 (by simp), h2⟩

section
variable {P : Program} {X : Ext} {N : Nat} {T : Tm} {σ : Heap} {K : Value → Heap → Prop} {KT : Tm → Heap → Prop} {Q : AExit → Tm → Heap → Prop} {ops : Array Oper} {t : TypeId}
theorem v_skip : vc P X N .skip T σ Q = Q .normal T σ := eq_of_heq HEq.rfl
theorem v_exit {id : Nat} : vc P X N (.exit id) T σ Q = Q (.exit id) T σ := eq_of_heq HEq.rfl
theorem v_ret : vc P X N .ret T σ Q = Q .ret T σ := eq_of_heq HEq.rfl
/-- Behind the first part. -/
def after (P : Program) (X : Ext) (N : Nat) (b : Code) (Q : AExit → Tm → Heap → Prop) : AExit → Tm → Heap → Prop
  | .normal, T, σ => vc P X N b T σ Q
  | e, T, σ => Q e T σ
theorem v_seq {a b : Code} : vc P X N (.seq a b) T σ Q = vc P X N a T σ (after P X N b Q) := by
  show vc P X N a T σ _ = _
  congr 1
  funext e T σ
  cases e <;> rfl
theorem after_normal {b : Code} : after P X N b Q .normal T σ = vc P X N b T σ Q := eq_of_heq HEq.rfl
theorem after_ret {b : Code} : after P X N b Q .ret T σ = Q .ret T σ := eq_of_heq HEq.rfl
theorem after_exit {b : Code} {id : Nat} : after P X N b Q (.exit id) T σ = Q (.exit id) T σ := eq_of_heq HEq.rfl
/-- A function's end. -/
def ends (P : Program) (rs : List ResultVar) (K : Value → Heap → Prop) : AExit → Tm → Heap → Prop
  | .exit _, _, _ => False
  | _, T, σ => thus (aresults P T σ rs) fun v => K v σ
theorem ends_normal {rs : List ResultVar} : ends P rs K .normal T σ = thus (aresults P T σ rs) fun v => K v σ := eq_of_heq HEq.rfl
theorem ends_ret {rs : List ResultVar} : ends P rs K .ret T σ = thus (aresults P T σ rs) fun v => K v σ := eq_of_heq HEq.rfl
theorem ends_r0 : aresults P T σ [] = some (.tuple #[]) := eq_of_heq HEq.rfl
theorem ends_r1 {a : Tmp} : aresults P T σ [.tmp a] = some (T a) := eq_of_heq HEq.rfl
theorem ends_r2 {a b : Tmp} : aresults P T σ [.tmp a, .tmp b] = some (.tuple #[T a, T b]) := eq_of_heq HEq.rfl
theorem ends_r3 {a b c : Tmp} : aresults P T σ [.tmp a, .tmp b, .tmp c] = some (.tuple #[T a, T b, T c]) := eq_of_heq HEq.rfl
theorem ends_r4 {a b c d : Tmp} : aresults P T σ [.tmp a, .tmp b, .tmp c, .tmp d] = some (.tuple #[T a, T b, T c, T d]) := eq_of_heq HEq.rfl
theorem ends_c1 {a : Tmp} {t : TypeId} : aresults P T σ [.cell a t] = aload P σ t (T a) := by
  simp only [aresults, List.mapM_cons, List.mapM_nil, aresult]
  cases aload P σ t (T a) <;> rfl
theorem ends_tc {a b : Tmp} {t : TypeId} : aresults P T σ [.tmp a, .cell b t] = (aload P σ t (T b)).map fun v => .tuple #[T a, v] := by
  simp only [aresults, List.mapM_cons, List.mapM_nil, aresult]
  cases aload P σ t (T b) <;> rfl
theorem ends_ttc {a b c : Tmp} {t : TypeId} : aresults P T σ [.tmp a, .tmp b, .cell c t] = (aload P σ t (T c)).map fun v => .tuple #[T a, T b, v] := by
  simp only [aresults, List.mapM_cons, List.mapM_nil, aresult]
  cases aload P σ t (T c) <;> rfl
theorem cw_in {f : FuncId} {fn : Func} {c : Code} {N : Nat} {rs : List ResultVar} {args : List Value} (hf : P.funcs[f]? = some fn) (hb : fn.body = some c) (hN : fn.ntmps = N) (hr : fn.results.toList = rs) (hst : (enterable P f && okCode fn.ntmps c && fn.results.all (okRes fn.ntmps) && okDraws c) = true) (hn : args.length ≤ N)
    (h : vc P X N c (fun t => args.getD t undef) σ (ends P rs K)) : CW P X f args σ K := by
  subst hN; subst hr
  simp only [Bool.and_eq_true] at hst
  obtain ⟨hst, hd⟩ := hst
  obtain ⟨e, T', σ', h1, h2⟩ := vc_run hd h
  refine ⟨hst.1.1, ?_⟩
  cases e with
  | exit id => exact h2.elim
  | normal =>
    obtain ⟨v, h3, h4⟩ := h2
    exact ⟨v, σ', .call hf hb hst.1.2 hst.2 hn h1 (.inl rfl) h3, h4⟩
  | ret =>
    obtain ⟨v, h3, h4⟩ := h2
    exact ⟨v, σ', .call hf hb hst.1.2 hst.2 hn h1 (.inr rfl) h3, h4⟩
theorem rounds_normal {I : Nat → Tm → Heap → Prop} {k : Nat} : rounds I k Q .normal T σ = ∃ j, j < k ∧ I j T σ := eq_of_heq HEq.rfl
theorem rounds_ret {I : Nat → Tm → Heap → Prop} {k : Nat} : rounds I k Q .ret T σ = Q .ret T σ := eq_of_heq HEq.rfl
theorem rounds_exit {I : Nat → Tm → Heap → Prop} {k id : Nat} : rounds I k Q (.exit id) T σ = Q (.exit id) T σ := eq_of_heq HEq.rfl
theorem unroll_normal {c : Code} : unroll P X N c Q .normal T σ = LW P X N c T σ Q := eq_of_heq HEq.rfl
theorem unroll_ret {c : Code} : unroll P X N c Q .ret T σ = Q .ret T σ := eq_of_heq HEq.rfl
theorem unroll_exit {c : Code} {id : Nat} : unroll P X N c Q (.exit id) T σ = Q (.exit id) T σ := eq_of_heq HEq.rfl
theorem v_cond {c : Operand} {x y : Code} : vc P X N (.cond c x y) T σ Q = onBool (aev P T c) fun t => fork t (vc P X N x T σ Q) (vc P X N y T σ Q) := eq_of_heq HEq.rfl
def leaves (id : Nat) (Q : AExit → Tm → Heap → Prop) : AExit → Tm → Heap → Prop := fun e => Q (e.leave id)
theorem v_block {id : Nat} {c : Code} : vc P X N (.block id c) T σ Q = vc P X N c T σ (leaves id Q) := eq_of_heq HEq.rfl
theorem leaves_normal {id : Nat} : leaves id Q .normal T σ = Q .normal T σ := eq_of_heq HEq.rfl
theorem leaves_ret {id : Nat} : leaves id Q .ret T σ = Q .ret T σ := eq_of_heq HEq.rfl
theorem leaves_exit {id i : Nat} : leaves id Q (.exit i) T σ = if i = id then Q .normal T σ else Q (.exit i) T σ := by
  simp only [leaves, AExit.leave]
  split <;> rfl
theorem v_loop {c : Code} : vc P X N (.loop c) T σ Q = LW P X N c T σ Q := eq_of_heq HEq.rfl
theorem v_region {id : Nat} {ops : Array Oper} : vc P X N (.region id ops false) T σ Q = vcOps P X ops ops.toList T σ (Q .normal) := eq_of_heq HEq.rfl
theorem v_draw {id : Nat} {ops : Array Oper} : vc P X N (.region id ops true) T σ Q = vcDraw P X ops 0 ops.toList T σ (Q .normal) := eq_of_heq HEq.rfl
theorem v_nil : vcOps P X ops [] T σ KT = KT T σ := eq_of_heq HEq.rfl
theorem v_cons {o : Oper} {l : List Oper} : vcOps P X ops (o :: l) T σ KT = vcStep P X ops o T σ fun T' σ' => vcOps P X ops l T' σ' KT := eq_of_heq HEq.rfl
theorem v_dnil {k : Nat} : vcDraw P X ops k [] T σ KT = KT T σ := eq_of_heq HEq.rfl
theorem v_dcons {k : Nat} {o : Oper} {l : List Oper} : vcDraw P X ops k (o :: l) T σ KT = vcStep P X ops o T σ fun T' σ' => Quiet P o ops k T σ σ' ∧ vcDraw P X ops (k + 1) l T' σ' KT := eq_of_heq HEq.rfl
theorem v_step {dst : Option Tmp} {op : Op} {ty : TypeId} {pos : String} {aft : Array Edge} : vcStep P X ops ⟨dst, op, ty, pos, aft, none⟩ T σ KT = vcOp P X op T σ fun v σ' => KT (putT T dst v) σ' := by simp [vcStep, awanted, thus]
/-- The test of a guard. -/
def guards (v : Value) (want : Bool) (A B : Prop) : Prop := thus (match v with | .bool b => some (b == want) | .tuple vs => if vs.size = 0 then some false else none | _ => none) fun b => fork b A B
theorem guards_congr {v v' : Value} {w : Bool} {A B : Prop} (h : here v = v') : guards v w A B = guards v' w A B := by rw [← h]; rfl
theorem guards_t {b : Bool} {A B : Prop} : guards (.bool b) true A B = fork b A B := by simp [guards, thus]
theorem guards_f {b : Bool} {A B : Prop} : guards (.bool b) false A B = fork b B A := by cases b <;> simp [guards, thus, fork]
theorem guards_undef {w : Bool} {A B : Prop} : guards undef w A B = B := by simp [guards, thus, fork, undef]
def gdl : List Oper → Nat → Option Tmp
  | [], _ => none
  | o :: _, 0 => o.dst
  | _ :: l, j + 1 => gdl l j
def gdst (ops : Array Oper) (j : Nat) : Option Tmp := gdl ops.toList j
theorem gdl_eq : ∀ (l : List Oper) (j : Nat), gdl l j = (l[j]?).bind (·.dst)
  | [], _ => by simp [gdl]
  | o :: _, 0 => rfl
  | _ :: l, j + 1 => by simp [gdl, gdl_eq l j]
theorem gdst_to {l : List Oper} {j : Nat} : gdst l.toArray j = gdl l j := eq_of_heq HEq.rfl
theorem gdl_zero {o : Oper} {l : List Oper} : gdl (o :: l) 0 = o.dst := eq_of_heq HEq.rfl
theorem gdl_succ {o : Oper} {l : List Oper} {j : Nat} : gdl (o :: l) (j + 1) = gdl l j := eq_of_heq HEq.rfl
def guarded (d : Option Tmp) (T : Tm) (want : Bool) (A B : Prop) : Prop := match d with
  | none => B
  | some d => guards (T d) want A B
theorem guarded_congr {d d' : Option Tmp} {T : Tm} {w : Bool} {A B : Prop} (h : here d = d') : guarded d T w A B = guarded d' T w A B := by rw [← h]; rfl
theorem guarded_some {d : Tmp} {w : Bool} {A B : Prop} : guarded (some d) T w A B = guards (T d) w A B := eq_of_heq HEq.rfl
theorem v_stepg {dst : Option Tmp} {op : Op} {ty : TypeId} {pos : String} {aft : Array Edge} {j : Nat} {want : Bool} : vcStep P X ops ⟨dst, op, ty, pos, aft, some (j, want)⟩ T σ KT =
    guarded (gdst ops j) T want (vcOp P X op T σ fun v σ' => KT (putT T dst v) σ') (KT (putT T dst undef) σ) := by
  simp only [vcStep, awanted, guarded, gdst, gdl_eq, Array.getElem?_toList]
  cases hd : (ops[j]?).bind (·.dst) with
  | none => simp [thus]
  | some d =>
    simp only [guards]
    congr 1
    funext b
    cases b <;> simp [fork]

theorem quiet_same {o : Oper} {k : Nat} : Quiet P o ops k T σ σ = True := by simp [Quiet, Side]
theorem quiet_app {o : Oper} {k : Nat} {l : Heap} : Quiet P o ops k T σ (σ ++ l) = True := by simp [Quiet, Side]
theorem quiet_app2 {o : Oper} {k : Nat} {l l' : Heap} : Quiet P o ops k T (σ ++ l) (σ ++ (l ++ l')) = True := by
  simp only [Quiet, Side, eq_iff_iff, iff_true]
  exact .inr (.inl (.inl ⟨l', by simp⟩))
theorem quiet_cons {o : Oper} {k : Nat} {b : Option Blk} {l l' : Heap} : Quiet P o ops k T (σ ++ b :: l) (σ ++ b :: (l ++ l')) = True := by
  simp only [Quiet, Side, eq_iff_iff, iff_true]
  exact .inr (.inl (.inl ⟨l', by simp⟩))
theorem quiet_free {k : Nat} {dst : Option Tmp} {op : Op} {ty : TypeId} {pos : String} {aft : Array Edge} {g : Option (Nat × Bool)} {σ' : Heap} (h : heapFree op = true) : Quiet P ⟨dst, op, ty, pos, aft, g⟩ ops k T σ σ' = True := by simp [Quiet, h]
theorem quiet_look {o : Oper} {k : Nat} (h : loudOk ops k = true) {σ' : Heap} : Quiet P o ops k T σ σ' := .inr (.inl (.inr h))
theorem Quiet_congr {o : Oper} {k : Nat} {σ1 σ1' σ2 σ2' : Heap} (h : here σ1 = σ2) (h' : here σ1' = σ2') : Quiet P o ops k T σ1 σ1' = Quiet P o ops k T σ2 σ2' := by rw [← h, ← h']; rfl
/-! ### operations -/
theorem o_move {x : Operand} : vcOp P X (.move x) T σ K = thus (some (aev P T x)) fun v => K v σ := by simp [vcOp, aop, thus]
theorem o_assign {x : Operand} : vcOp P X (.assign x) T σ K = thus (some (aev P T x)) fun v => K v σ := by simp [vcOp, aop, thus]
theorem o_load {t : TypeId} {a : Operand} : vcOp P X (.load t a) T σ K = thus (aload P σ t (aev P T a)) fun v => K v σ := by simp [vcOp, aop, thus_map]
theorem o_store {t : TypeId} {a x : Operand} : vcOp P X (.store t a x) T σ K = thus (astore P σ t (aev P T a) (aev P T x)) fun σ' => K undef σ' := by simp [vcOp, aop, thus_map]
theorem o_fieldAddr {t : TypeId} {a : Operand} {i : Nat} : vcOp P X (.fieldAddr t a i) T σ K = thus (afieldAddr P t (aev P T a) i) fun v => K v σ := by simp [vcOp, aop, thus_map]
theorem o_field {t : TypeId} {a : Operand} {i : Nat} : vcOp P X (.field t a i) T σ K = thus (afield P t (aev P T a) i) fun v => K v σ := by simp [vcOp, aop, thus_map]
theorem o_indexAddr {t : TypeId} {a i : Operand} : vcOp P X (.indexAddr t a i) T σ K = thus (aindexAddr P t (aev P T a) (aev P T i)) fun v => K v σ := by simp [vcOp, aop, thus_map]
theorem o_index {t : TypeId} {a i : Operand} : vcOp P X (.index t a i) T σ K = thus (aindex P t (aev P T a) (aev P T i)) fun v => K v σ := by simp [vcOp, aop, thus_map]
theorem o_extract {a : Operand} {i : Nat} : vcOp P X (.extract a i) T σ K = thus (aextract (aev P T a) i) fun v => K v σ := by simp [vcOp, aop, thus_map]
theorem o_nilCheck {a : Operand} : vcOp P X (.nilCheck a) T σ K = thus (anilCheck (aev P T a)) fun v => K v σ := by simp [vcOp, aop, thus_map]
theorem o_unOp {op : UnOp} {t : TypeId} {a : Operand} : vcOp P X (.unOp op t a) T σ K = thus (aunary op (aev P T a)) fun v => K v σ := by simp [vcOp, aop, thus_map]
theorem o_convert {s d : TypeId} {a : Operand} : vcOp P X (.convert s d a) T σ K = thus (aconvert P s d (aev P T a)) fun v => K v σ := by simp [vcOp, aop, thus_map]
theorem o_makeInterface {t : TypeId} {a : Operand} : vcOp P X (.makeInterface t a) T σ K = thus (amakeInterface P t (aev P T a)) fun v => K v σ := by simp [vcOp, aop, thus_map]
theorem o_slice {t : TypeId} {a : Operand} {lo hi mx : Option Operand} : vcOp P X (.slice t a lo hi mx) T σ K = thus (aslice P σ t (aev P T a) (lo.map (aev P T)) (hi.map (aev P T)) (mx.map (aev P T))) fun v => K v σ := by simp [vcOp, aop, thus_map]
theorem o_makeSlice {t : TypeId} {n m : Operand} : vcOp P X (.makeSlice t n m) T σ K = thus2 (amakeSlice P σ t (aev P T n) (aev P T m)) K := by rw [← thus2_eq]; simp [vcOp, aop]
theorem o_build {t : TypeId} {parts : Array (Nat × Operand)} : vcOp P X (.build t parts) T σ K = thus (abuild P t (parts.toList.map fun p => (p.1, aev P T p.2))) fun v => K v σ := by simp [vcOp, aop, thus_map]
theorem o_buildSlice {t : TypeId} {len : Nat} {parts : Array (Nat × Operand)} : vcOp P X (.buildSlice t len parts) T σ K = thus2 (abuildSlice P σ t len (parts.toList.map fun p => (p.1, aev P T p.2))) K := by rw [← thus2_eq]; simp [vcOp, aop]
theorem o_makeFunc {f : Fn} {a b : Array Operand} : vcOp P X (.makeFunc f a b) T σ K = thus (some (Value.func f (a.map (aev P T)) (b.map (aev P T)))) fun v => K v σ := by simp [vcOp, aop, thus]
theorem o_len {as : Array Operand} {ts : Array TypeId} : vcOp P X (.call ⟨.builtin .len, as, ts⟩) T σ K = thus (alen P ts (as.toList.map (aev P T))) fun v => K v σ := by simp [vcOp, aop, thus_map]
theorem o_append {s x : Operand} {ts : Array TypeId} : vcOp P X (.call ⟨.builtin .append, #[s, x], ts⟩) T σ K = thus2 (aappend P σ ts (aev P T s) (aev P T x)) K := by rw [← thus2_eq]; simp [vcOp, aop]
theorem o_call {g : FuncId} {as : Array Operand} {ts : Array TypeId} : vcOp P X (.call ⟨.value (.func g), as, ts⟩) T σ K = CW P X g (as.toList.map (aev P T)) σ K := by simp [vcOp, acallee, aev, thus]
/-- A call of what stands in a temporary. -/
theorem o_callv {t : Tmp} {g : FuncId} {as a b : Array Operand} {ts : Array TypeId} {va vb : Array Value} (h : T t = .func (.func g) va vb) : vcOp P X (.call ⟨.value (.tmp t), as, ts⟩) T σ K = CW P X g (va.toList ++ as.toList.map (aev P T) ++ vb.toList) σ K := by simp [vcOp, acallee, aev, thus, h]
theorem ite_thus {α : Type} {φ : Prop} [Decidable φ] {o : Option α} {K : α → Prop} : thus (if φ then o else none) K = (φ ∧ thus o K) := by
  by_cases h : φ <;> simp [h, thus]
theorem o_box {t : TypeId} {a : Operand} : vcOp P X (.box t a) T σ K = thus (if lone (aev P T a) = true then some (cl (aev P T a)) else none) fun cs => thus2 (some (newPtr σ, σ ++ [some ⟨cs, true, 0⟩])) K := by
  simp only [vcOp, aop, lone_eq, cl]
  split
  · simp [thus, thus2_some]
  · simp [thus, thus2_some]
def azero (P : Program) (t : TypeId) : Option (List Value) := if (P.info? t).isSome = true then (tzero P t).bind fun z => if z.cells.all scal = true then some z.cells.toList else none else none
theorem o_alloc {t : TypeId} : vcOp P X (.alloc t) T σ K = thus (azero P t) fun cs => thus2 (some (newPtr σ, σ ++ [some ⟨cs, true, 0⟩])) K := by
  simp only [vcOp, aop, azero]
  split
  · cases tzero P t with
    | none => simp [thus, thus2_some]
    | some z =>
      simp only [Option.bind_some]
      split <;> simp [thus, thus2_some]
  · simp [thus, thus2_some]
theorem o_pick {c a b : Operand} : vcOp P X (.pick c a b) T σ K = onBool (aev P T c) fun t => thus (some (bif t then aev P T a else aev P T b)) fun v => K v σ := by
  simp only [vcOp, aop]
  split
  · rename_i t h
    rw [h]
    cases t <;> simp [thus, onBool]
  · rename_i h
    simp only [thus, onBool]
    apply propext
    constructor
    · rintro ⟨_, h2, _⟩
      simp at h2
    · rintro ⟨t, h2, _⟩
      exact absurd h2 (h t)
theorem o_bin {op : BinOp} {t u : TypeId} {x y : Operand} : vcOp P X (.binOp op t x y u) T σ K = thus (if aguard P op t x y (aev P T x) (aev P T y) = true then abin P op t (aev P T x) (aev P T y) else none) fun v => K v σ := by
  simp only [vcOp, aop]
  split
  · rw [thus_map]
  · simp [thus]

/-! ### values -/
theorem e_tmp {t : Tmp} : aev P T (.tmp t) = T t := eq_of_heq HEq.rfl
theorem e_int {k : IntKind} {n : Int} : aev P T (.const (.int k n)) = .int k n := eq_of_heq HEq.rfl
theorem e_bool {b : Bool} : aev P T (.const (.bool b)) = .bool b := eq_of_heq HEq.rfl
theorem e_string {b : ByteArray} : aev P T (.const (.string b)) = .string b := eq_of_heq HEq.rfl
theorem e_slice : aev P T (.const (.slice none 0 0)) = .slice none 0 0 := eq_of_heq HEq.rfl
theorem e_pnil : aev P T (.const (.pointer none)) = .pointer none := eq_of_heq HEq.rfl
theorem e_inil : aev P T (.const .nilIface) = .nilIface := eq_of_heq HEq.rfl
theorem e_func {f : FuncId} : aev P T (.func f) = .func (.func f) #[] #[] := eq_of_heq HEq.rfl
theorem put_get {d t : Tmp} {v : Value} : putT T (some d) v t = if t = d then v else T t := eq_of_heq HEq.rfl
theorem put_none {v : Value} : putT T none v = T := eq_of_heq HEq.rfl
theorem i_add {k : IntKind} {a b : Int} : abin P .add t (.int k a) (.int k b) = some (.int k (k.wrap (a + b))) := by simp [abin, aintOp]
theorem i_sub {k : IntKind} {a b : Int} : abin P .sub t (.int k a) (.int k b) = some (.int k (k.wrap (a - b))) := by simp [abin, aintOp]
theorem i_mul {k : IntKind} {a b : Int} : abin P .mul t (.int k a) (.int k b) = some (.int k (k.wrap (a * b))) := by simp [abin, aintOp]
theorem i_quo {k : IntKind} {a b : Int} (h : b ≠ 0) : abin P .quo t (.int k a) (.int k b) = some (.int k (k.wrap (a.tdiv b))) := by simp [abin, aintOp, h]
theorem i_rem {k : IntKind} {a b : Int} (h : b ≠ 0) : abin P .rem t (.int k a) (.int k b) = some (.int k (a.tmod b)) := by simp [abin, aintOp, h]
theorem i_and {k : IntKind} {a b : Int} : abin P .and t (.int k a) (.int k b) = some (.int k (Go.bits .and k a b)) := by simp [abin, aintOp]
theorem i_or {k : IntKind} {a b : Int} : abin P .or t (.int k a) (.int k b) = some (.int k (Go.bits .or k a b)) := by simp [abin, aintOp]
theorem i_xor {k : IntKind} {a b : Int} : abin P .xor t (.int k a) (.int k b) = some (.int k (Go.bits .xor k a b)) := by simp [abin, aintOp]
theorem i_shl {k k' : IntKind} {a b : Int} (h : 0 ≤ b) : abin P .shl t (.int k a) (.int k' b) = some (.int k (k.wrap (a * 2 ^ (min b.toNat k.bits)))) := by simp [abin, aintOp, Int.not_lt.2 h]
theorem i_shr {k k' : IntKind} {a b : Int} (h : 0 ≤ b) : abin P .shr t (.int k a) (.int k' b) = some (.int k (a.fdiv (2 ^ (min b.toNat k.bits)))) := by simp [abin, aintOp, Int.not_lt.2 h]
theorem i_eql {k : IntKind} {a b : Int} : abin P .eql t (.int k a) (.int k b) = some (.bool (decide (a = b))) := by simp [abin, aintOp]
theorem i_neq {k : IntKind} {a b : Int} : abin P .neq t (.int k a) (.int k b) = some (.bool (decide (a ≠ b))) := by simp [abin, aintOp]
theorem i_lss {k : IntKind} {a b : Int} : abin P .lss t (.int k a) (.int k b) = some (.bool (decide (a < b))) := by simp [abin, aintOp]
theorem i_leq {k : IntKind} {a b : Int} : abin P .leq t (.int k a) (.int k b) = some (.bool (decide (a ≤ b))) := by simp [abin, aintOp]
theorem i_gtr {k : IntKind} {a b : Int} : abin P .gtr t (.int k a) (.int k b) = some (.bool (decide (b < a))) := by simp [abin, aintOp]
theorem i_geq {k : IntKind} {a b : Int} : abin P .geq t (.int k a) (.int k b) = some (.bool (decide (b ≤ a))) := by simp [abin, aintOp]
theorem s_add {a b : ByteArray} (h : ((a.size + b.size : Nat) : Int) ≤ 9223372036854775807) : abin P .add t (.string a) (.string b) = some (.string (a ++ b)) := by simp [abin, astrOp]; omega
theorem s_eql {a b : ByteArray} : abin P .eql t (.string a) (.string b) = some (.bool (decide (a = b))) := eq_of_heq HEq.rfl
theorem s_neq {a b : ByteArray} : abin P .neq t (.string a) (.string b) = some (.bool (decide (a ≠ b))) := eq_of_heq HEq.rfl
theorem g_lss {x y : Operand} {a b : Value} : aguard P .lss t x y a b = true := eq_of_heq HEq.rfl
theorem g_leq {x y : Operand} {a b : Value} : aguard P .leq t x y a b = true := eq_of_heq HEq.rfl
theorem g_gtr {x y : Operand} {a b : Value} : aguard P .gtr t x y a b = true := eq_of_heq HEq.rfl
theorem g_geq {x y : Operand} {a b : Value} : aguard P .geq t x y a b = true := eq_of_heq HEq.rfl
theorem g_add {x y : Operand} {a b : Value} : aguard P .add t x y a b = true := eq_of_heq HEq.rfl
theorem g_sub {x y : Operand} {a b : Value} : aguard P .sub t x y a b = true := eq_of_heq HEq.rfl
theorem g_mul {x y : Operand} {a b : Value} : aguard P .mul t x y a b = true := eq_of_heq HEq.rfl
theorem g_quo {x y : Operand} {a b : Value} : aguard P .quo t x y a b = true := eq_of_heq HEq.rfl
theorem g_rem {x y : Operand} {a b : Value} : aguard P .rem t x y a b = true := eq_of_heq HEq.rfl
theorem g_and {x y : Operand} {a b : Value} : aguard P .and t x y a b = true := eq_of_heq HEq.rfl
theorem g_or {x y : Operand} {a b : Value} : aguard P .or t x y a b = true := eq_of_heq HEq.rfl
theorem g_xor {x y : Operand} {a b : Value} : aguard P .xor t x y a b = true := eq_of_heq HEq.rfl
theorem g_shl {x y : Operand} {a b : Value} : aguard P .shl t x y a b = true := eq_of_heq HEq.rfl
theorem g_shr {x y : Operand} {a b : Value} : aguard P .shr t x y a b = true := eq_of_heq HEq.rfl
theorem g_eqI {x y : Operand} {k k' : IntKind} {a b : Int} : aguard P .eql t x y (.int k a) (.int k' b) = true := eq_of_heq HEq.rfl
theorem g_neI {x y : Operand} {k k' : IntKind} {a b : Int} : aguard P .neq t x y (.int k a) (.int k' b) = true := eq_of_heq HEq.rfl
theorem g_eqS {x y : Operand} {a b : ByteArray} : aguard P .eql t x y (.string a) (.string b) = true := eq_of_heq HEq.rfl
theorem g_neS {x y : Operand} {a b : ByteArray} : aguard P .neq t x y (.string a) (.string b) = true := eq_of_heq HEq.rfl
theorem g_eqB {x y : Operand} {a b : Bool} : aguard P .eql t x y (.bool a) (.bool b) = true := eq_of_heq HEq.rfl
theorem g_neB {x y : Operand} {a b : Bool} : aguard P .neq t x y (.bool a) (.bool b) = true := eq_of_heq HEq.rfl
theorem not_bool {b : Bool} : aunary .not (.bool b) = some (.bool !b) := eq_of_heq HEq.rfl
theorem neg_int {k : IntKind} {n : Int} : aunary .neg (.int k n) = some (.int k (k.wrap (0 - n))) := eq_of_heq HEq.rfl
theorem if_true_some {α : Type} {φ : Prop} [Decidable φ] (h : φ) (a b : α) : (if φ then a else b) = a := if_pos h
theorem x_tuple0 {a b : Value} {l : List Value} : aextract (.tuple (a :: b :: l).toArray) 0 = some a := by simp [aextract]
theorem x_tuple1 {a b : Value} {l : List Value} : aextract (.tuple (a :: b :: l).toArray) 1 = some b := by simp [aextract]
theorem x_tuple2 {a b c : Value} {l : List Value} : aextract (.tuple (a :: b :: c :: l).toArray) 2 = some c := by simp [aextract]
theorem x_tuple3 {a b c d : Value} {l : List Value} : aextract (.tuple (a :: b :: c :: d :: l).toArray) 3 = some d := by simp [aextract]
theorem n_ptr {a : Addr} : anilCheck (.pointer (some a)) = some (.pointer (some a)) := eq_of_heq HEq.rfl

/-! ### memory -/
theorem look_app_lt {σ l : Heap} {n : Nat} (h : n < σ.length) : look (σ ++ l) n = look σ n := by
  unfold look
  rw [List.getElem?_append_left h]
theorem look_app_ge {σ l : Heap} {n : Nat} (h : σ.length ≤ n) : look (σ ++ l) n = look l (n - σ.length) := by
  unfold look
  rw [List.getElem?_append_right h]
theorem look_app_new {σ l : Heap} : look (σ ++ l) σ.length = look l 0 := by rw [look_app_ge (Nat.le_refl _), Nat.sub_self]
theorem look_app_add {σ l : Heap} {i : Nat} : look (σ ++ l) (σ.length + i) = look l i := by rw [look_app_ge (Nat.le_add_right _ _), Nat.add_sub_cancel_left]
theorem look_app_at {σ l : Heap} {n i : Nat} (h : n = σ.length + i) : look (σ ++ l) n = look l i := by rw [h, look_app_add]
theorem look_zero {b : Option Blk} {l : Heap} : look (b :: l) 0 = b := by cases b <;> rfl
theorem look_succ {b : Option Blk} {l : Heap} {i : Nat} : look (b :: l) (i + 1) = look l i := eq_of_heq HEq.rfl
theorem look_set {σ : Heap} {n m : Nat} {b : Option Blk} (h : n < σ.length) : look (σ.set n b) m = if m = n then b else look σ m := by
  unfold look
  rw [List.getElem?_set]
  by_cases hm : m = n
  · subst hm
    simp [h]
  · simp [hm, Ne.symm hm]
theorem set_app_lt {σ l : Heap} {n : Nat} {b : Option Blk} (h : n < σ.length) : (σ ++ l).set n b = σ.set n b ++ l := by
  rw [List.set_append_left _ _ h]
theorem set_app_new {σ l : Heap} {b : Option Blk} : (σ ++ l).set σ.length b = σ ++ l.set 0 b := by
  rw [List.set_append_right _ _ (Nat.le_refl _), Nat.sub_self]
theorem set_app_add {σ l : Heap} {i : Nat} {b : Option Blk} : (σ ++ l).set (σ.length + i) b = σ ++ l.set i b := by
  rw [List.set_append_right _ _ (Nat.le_add_right _ _), Nat.add_sub_cancel_left]
theorem c_agg {cs : List Value} : cl (.agg cs.toArray) = cs := eq_of_heq HEq.rfl
theorem c_int {k : IntKind} {n : Int} : cl (Value.int k n) = [.int k n] := eq_of_heq HEq.rfl
theorem c_bool {b : Bool} : cl (Value.bool b) = [.bool b] := eq_of_heq HEq.rfl
theorem c_string {b : ByteArray} : cl (Value.string b) = [.string b] := eq_of_heq HEq.rfl
theorem c_ptr {a : Option Addr} : cl (Value.pointer a) = [.pointer a] := eq_of_heq HEq.rfl
theorem c_slice {a : Option Addr} {n m : Nat} : cl (Value.slice a n m) = [.slice a n m] := eq_of_heq HEq.rfl
theorem c_inil : cl .nilIface = [.nilIface] := eq_of_heq HEq.rfl
theorem c_iface {t : TypeId} {v : Value} : cl (Value.iface t v) = [.iface t v] := eq_of_heq HEq.rfl
theorem c_func {f : Fn} {a b : Array Value} : cl (Value.func f a b) = [.func f a b] := eq_of_heq HEq.rfl
theorem l_agg {cs : List Value} : lone (.agg cs.toArray) = cs.all (·.oneCell') := eq_of_heq HEq.rfl
theorem k_int {k : IntKind} {n : Int} : (Value.int k n).oneCell' = true := eq_of_heq HEq.rfl
theorem k_bool {b : Bool} : (Value.bool b).oneCell' = true := eq_of_heq HEq.rfl
theorem k_string {b : ByteArray} : (Value.string b).oneCell' = true := eq_of_heq HEq.rfl
theorem k_ptr {a : Option Addr} : (Value.pointer a).oneCell' = true := eq_of_heq HEq.rfl
theorem k_slice {a : Option Addr} {n m : Nat} : (Value.slice a n m).oneCell' = true := eq_of_heq HEq.rfl
theorem k_inil : Value.nilIface.oneCell' = true := eq_of_heq HEq.rfl
theorem k_iface {t : TypeId} {v : Value} : (Value.iface t v).oneCell' = true := eq_of_heq HEq.rfl
theorem k_func {f : Fn} {a b : Array Value} : (Value.func f a b).oneCell' = true := eq_of_heq HEq.rfl
theorem l_int {k : IntKind} {n : Int} : lone (Value.int k n) = true := eq_of_heq HEq.rfl
theorem l_bool {b : Bool} : lone (Value.bool b) = true := eq_of_heq HEq.rfl
theorem l_string {b : ByteArray} : lone (Value.string b) = true := eq_of_heq HEq.rfl
theorem l_ptr {a : Option Addr} : lone (Value.pointer a) = true := eq_of_heq HEq.rfl
theorem l_slice {a : Option Addr} {n m : Nat} : lone (Value.slice a n m) = true := eq_of_heq HEq.rfl
theorem l_inil : lone Value.nilIface = true := eq_of_heq HEq.rfl
theorem l_iface {t : TypeId} {v : Value} : lone (Value.iface t v) = true := eq_of_heq HEq.rfl
theorem l_func {f : Fn} {a b : Array Value} : lone (Value.func f a b) = true := eq_of_heq HEq.rfl
theorem wrap64 {n : Int} (h : -9223372036854775808 ≤ n ∧ n ≤ 9223372036854775807) : IntKind.i64.wrap n = n := IntWalk.i64_in n h
end
attribute [congr] thus_congr thus2_congr fork_congr onBool_congr CW_congr LW_congr guards_congr guarded_congr Quiet_congr
attribute [go_sem ↓] here_eq v_skip v_exit v_ret v_seq after_normal after_ret after_exit v_cond v_block leaves_normal leaves_ret rounds_normal rounds_ret rounds_exit unroll_normal unroll_ret unroll_exit ends_normal ends_ret ends_r0 ends_r1 ends_r2 ends_r3 ends_r4 ends_c1 ends_tc ends_ttc leaves_exit v_loop v_region v_draw v_nil v_cons v_dnil v_dcons v_step gdst_to gdl_zero gdl_succ guarded_some v_stepg o_move o_assign o_load o_store o_fieldAddr o_field o_indexAddr o_index o_extract o_nilCheck o_unOp o_convert o_makeInterface o_slice o_makeSlice o_build o_buildSlice o_makeFunc o_len o_append o_call o_box o_alloc o_pick o_bin e_tmp e_int e_bool e_string e_slice e_pnil e_inil e_func put_get put_none
attribute [go_sem] quiet_same quiet_app quiet_app2 quiet_cons wrap64 fork_true fork_false onBool_bool thus_some thus2_some thus_map guards_t guards_f guards_undef not_bool neg_int x_tuple0 x_tuple1 x_tuple2 x_tuple3 n_ptr look_app_new look_app_add look_zero look_succ set_app_new set_app_add i_add i_sub i_mul i_and i_or i_xor i_eql i_neq i_lss i_leq i_gtr i_geq s_eql s_neq g_lss g_leq g_gtr g_geq g_add g_sub g_mul g_quo g_rem g_and g_or g_xor g_shl g_shr g_eqI g_neI g_eqS g_neS g_eqB g_neB
attribute [go_sem] l_agg k_int k_bool k_string k_ptr k_slice k_inil k_iface k_func c_agg c_int c_bool c_string c_ptr c_slice c_inil c_iface c_func l_int l_bool l_string l_ptr l_slice l_inil l_iface l_func newPtr Nat.zero_add List.all_toArray List.all_cons List.all_nil Bool.and_true Bool.true_and if_true if_false decide_true decide_false and_self and_true true_and List.toList_toArray List.size_toArray Nat.le_refl Nat.sub_self Nat.zero_lt_succ Nat.add_zero Option.bind_none Int.toNat_natCast Int.natCast_nonneg Bool.or_false Bool.false_or Bool.or_true Bool.true_or Bool.and_false Bool.false_and not_true_eq_false not_false_eq_true ne_eq List.map_cons List.map_nil List.length_cons List.length_nil List.set_cons_zero List.set_cons_succ List.getElem?_cons_zero List.getElem?_cons_succ Option.bind_some Option.map_some Option.map_none List.nil_append List.cons_append Bool.not_true Bool.not_false cond_true cond_false List.append_assoc List.length_append List.getD_cons_zero List.getD_cons_succ Option.getD_some
end Go.Proofs.YtkgdkommahgakaaDoor.Abs
