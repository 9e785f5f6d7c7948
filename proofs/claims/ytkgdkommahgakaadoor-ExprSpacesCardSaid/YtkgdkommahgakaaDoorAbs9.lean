/- The abstract machine: code, calls, and the rounds of a loop; what a run there tells of the machine's own calls (regions whose order is drawn: the text behind this one). -/
import Derived.Test.YtkgdkommahgakaaDoorAbs8
import Derived.LoopN
namespace Go.Proofs.YtkgdkommahgakaaDoor.Abs
open Go Go.RowKit
set_option linter.unusedVariables false
set_option linter.unusedSimpArgs false

inductive AExit where
  | normal
  | exit (id : Nat)
  | ret
def AExit.leave (id : Nat) : AExit → AExit
  | .exit i => if i = id then .normal else .exit i
  | e => e
def AExit.conc : AExit → Exit
  | .normal => .normal
  | .exit i => .exit i
  | .ret => .ret

abbrev Tm := Nat → Value
def putT (T : Tm) (d : Option Tmp) (v : Value) : Tm :=
  match d with
  | some d => fun t => if t = d then v else T t
  | none => T
/-- Is an operation carried out? -/
def awanted (ops : Array Oper) (T : Tm) (o : Oper) : Option Bool :=
  match o.guard with
  | none => some true
  | some (j, want) => match (ops[j]?).bind (·.dst) with
    | none => some false
    | some d => match T d with
      | .bool b => some (b == want)
      | .tuple vs => if vs.size = 0 then some false else none
      | _ => none
def okOpnd (N : Nat) : Operand → Bool
  | .tmp t => decide (t < N)
  | _ => true
def okOper (N : Nat) (o : Oper) : Bool := o.op.operands.all (okOpnd N) && (match o.dst with | some d => decide (d < N) | none => true)
def okCode (N : Nat) : Code → Bool
  | .skip | .exit _ | .ret => true
  | .region _ ops _ => ops.all (okOper N)
  | .seq a b => okCode N a && okCode N b
  | .cond c a b => okOpnd N c && okCode N a && okCode N b
  | .block _ c => okCode N c
  | .loop c => okCode N c
  | _ => false
def okRes (N : Nat) : ResultVar → Bool
  | .tmp t => decide (t < N)
  | .cell a _ => decide (a < N)
def enterable (P : Program) (f : FuncId) : Bool :=
  match P.funcs[f]? with
  | some fn => fn.body.isSome && !(fn.name == "runtime.NumGoroutine")
  | none => false
def aresult (P : Program) (T : Tm) (σ : Heap) : ResultVar → Option Value
  | .tmp t => some (T t)
  | .cell a t => aload P σ t (T a)
def aresults (P : Program) (T : Tm) (σ : Heap) (rs : List ResultVar) : Option Value :=
  (rs.mapM (aresult P T σ)).map fun vs => match vs with | [v] => v | vs => .tuple vs.toArray
def acallee (ρ : Operand → Value) (c : Call) : Option (FuncId × List Value) :=
  match c.callee with
  | .value f => match ρ f with
    | .func (.func g) first captured => some (g, first.toList ++ c.args.toList.map ρ ++ captured.toList)
    | _ => none
  | _ => none

inductive Job where
  | code (N : Nat) (c : Code) (T : Tm)
  | ops (N : Nat) (ops : Array Oper) (k : Nat) (l : List Oper) (T : Tm)
  | draw (N : Nat) (ops : Array Oper) (k : Nat) (l : List Oper) (T : Tm)
  | call (f : FuncId) (args : List Value)
inductive Out where
  | ex (e : AExit) (T : Tm)
  | val (v : Value)
/-- Functions that are told from outside: what they answer. -/
abbrev Ext := FuncId → List Value → Heap → Value → Heap → Prop

/-- Which operations come before which, as a number's bits. -/
def bef (ops : Array Oper) : Array Nat := Region.before ops
def befB (ops : Array Oper) (j i : Nat) : Bool := ((bef ops).getD j 0).testBit i
/-- Two operations of a region: the one waits for the other, or they have nothing in common. -/
def pairOk (ops : Array Oper) (i j : Nat) : Bool :=
  befB ops j i || match ops[i]?, ops[j]? with | some x, some y => x.apart ops y | _, _ => true
/-- An operation that turns memory, in a region that draws: all that looks at memory waits for it, or it waits for that. -/
def loudOk (ops : Array Oper) (e : Nat) : Bool :=
  (List.range ops.size).all fun i => i == e || (match ops[i]? with | some o => heapFree o.op | none => true) || (decide (i < e) && befB ops e i) || (decide (e < i) && befB ops i e)
def edgesOk (ops : Array Oper) : Bool :=
  (List.range ops.size).all fun i => match ops[i]? with | some o => o.after.all fun e => !Region.binds .any e || decide (e.on < i) | none => true
def drawOk (ops : Array Oper) : Bool :=
  Region.noSelect ops && edgesOk ops && (List.range ops.size).all fun j => (List.range j).all fun i => pairOk ops i j

/-! A load that a store does not wait for. -/
def isLd : Oper → Option Tmp
  | ⟨some _, .load _ (.tmp a), _, _, _, none⟩ => some a
  | _ => none
def isSt : Oper → Option Tmp
  | ⟨none, .store _ (.tmp a) _, _, _, _, none⟩ => some a
  | _ => none
def quietOp (o : Oper) : Bool := heapFree o.op || (isLd o).isSome
def stays (ops : Array Oper) (t : Tmp) : Bool := ops.all fun o => match o.dst with | some d => !Nat.beq d t | none => true
def lateLd (ops : Array Oper) (i : Nat) : Option Tmp := match ops[i]? with
  | some o => match isLd o with
    | some a => if stays ops a = true ∧ ((List.range i).all fun j => match ops[j]? with | some o => quietOp o | none => true) = true then some a else none
    | none => none
  | none => none
def lateSt (ops : Array Oper) (e : Nat) : Option Tmp := match ops[e]? with
  | some o => match isSt o with
    | some a => if stays ops a = true ∧ ((List.range ops.size).all fun i => Nat.beq i e || (lateLd ops i).isSome || (match ops[i]? with | some o => heapFree o.op | none => true) || (decide (i < e) && befB ops e i) || (decide (e < i) && befB ops i e)) = true then some a else none
    | none => none
  | none => none
def lateOk (ops : Array Oper) : Bool := (List.range ops.size).all fun e => (match ops[e]? with | some o => quietOp o | none => true) || (lateSt ops e).isSome
def ptrOf : Value → Option Nat
  | .pointer (some ⟨n, _, none⟩) => some n
  | _ => none
/-- Whatever is not quiet is a store, to a block that no late load looks at. -/
def Late (ops : Array Oper) (T : Tm) : Prop := lateOk ops = true ∧ ∀ a ∈ (List.range ops.size).filterMap (lateLd ops), ∀ b ∈ (List.range ops.size).filterMap (lateSt ops), ptrOf (T a) ≠ ptrOf (T b)

inductive Run (P : Program) (X : Ext) : Job → Heap → Out → Heap → Prop
  | skip {N T σ} : Run P X (.code N .skip T) σ (.ex .normal T) σ
  | exit {N T σ id} : Run P X (.code N (.exit id) T) σ (.ex (.exit id) T) σ
  | ret {N T σ} : Run P X (.code N .ret T) σ (.ex .ret T) σ
  | seqN {N a b T T1 σ σ1 o σ2} (h : Run P X (.code N a T) σ (.ex .normal T1) σ1) (h' : Run P X (.code N b T1) σ1 o σ2) : Run P X (.code N (.seq a b) T) σ o σ2
  | seqX {N a b T T1 σ σ1 e} (h : Run P X (.code N a T) σ (.ex e T1) σ1) (he : e ≠ .normal) : Run P X (.code N (.seq a b) T) σ (.ex e T1) σ1
  | cond {N c x y T σ o σ' t} (hc : aev P T c = .bool t) (h : Run P X (.code N (if t = true then x else y) T) σ o σ') : Run P X (.code N (.cond c x y) T) σ o σ'
  | block {N id c T T1 σ σ1 e} (h : Run P X (.code N c T) σ (.ex e T1) σ1) : Run P X (.code N (.block id c) T) σ (.ex (e.leave id) T1) σ1
  | loopN {N c T T1 σ σ1 o σ2} (h : Run P X (.code N c T) σ (.ex .normal T1) σ1) (h' : Run P X (.code N (.loop c) T1) σ1 o σ2) : Run P X (.code N (.loop c) T) σ o σ2
  | loopX {N c T T1 σ σ1 e} (h : Run P X (.code N c T) σ (.ex e T1) σ1) (he : e ≠ .normal) : Run P X (.code N (.loop c) T) σ (.ex e T1) σ1
  | region {N id ops T T1 σ σ1} (h : Run P X (.ops N ops 0 ops.toList T) σ (.ex .normal T1) σ1) : Run P X (.code N (.region id ops false) T) σ (.ex .normal T1) σ1
  | regionDraw {N id ops T T1 σ σ1} (hd : drawOk ops = true) (h : Run P X (.draw N ops 0 ops.toList T) σ (.ex .normal T1) σ1) : Run P X (.code N (.region id ops true) T) σ (.ex .normal T1) σ1
  | opsNil {N ops k T σ} : Run P X (.ops N ops k [] T) σ (.ex .normal T) σ
  | opsSkip {N ops k o l T σ T1 σ1} (hw : awanted ops T o = some false) (h : Run P X (.ops N ops (k + 1) l (putT T o.dst undef)) σ (.ex .normal T1) σ1) : Run P X (.ops N ops k (o :: l) T) σ (.ex .normal T1) σ1
  | opsStep {N ops k o l T σ T1 σ1 v σ0} (hw : awanted ops T o = some true) (hv : aop P (aev P T) σ o.op = some (v, σ0)) (h : Run P X (.ops N ops (k + 1) l (putT T o.dst v)) σ0 (.ex .normal T1) σ1) :
      Run P X (.ops N ops k (o :: l) T) σ (.ex .normal T1) σ1
  | opsCall {N ops k o l T σ T1 σ1 v σ0 c f args} (hw : awanted ops T o = some true) (ho : o.op = .call c) (hc : acallee (aev P T) c = some (f, args)) (hen : enterable P f = true) (hv : Run P X (.call f args) σ (.val v) σ0)
      (h : Run P X (.ops N ops (k + 1) l (putT T o.dst v)) σ0 (.ex .normal T1) σ1) : Run P X (.ops N ops k (o :: l) T) σ (.ex .normal T1) σ1
  | drawNil {N ops k T σ} : Run P X (.draw N ops k [] T) σ (.ex .normal T) σ
  | drawSkip {N ops k o l T σ T1 σ1} (hw : awanted ops T o = some false) (h : Run P X (.draw N ops (k + 1) l (putT T o.dst undef)) σ (.ex .normal T1) σ1) : Run P X (.draw N ops k (o :: l) T) σ (.ex .normal T1) σ1
  | drawStep {N ops k o l T σ T1 σ1 v σ0} (hw : awanted ops T o = some true) (hv : aop P (aev P T) σ o.op = some (v, σ0)) (hq : heapFree o.op = true ∨ σ <+: σ0 ∨ loudOk ops k = true ∨ Late ops T)
      (h : Run P X (.draw N ops (k + 1) l (putT T o.dst v)) σ0 (.ex .normal T1) σ1) : Run P X (.draw N ops k (o :: l) T) σ (.ex .normal T1) σ1
  | drawCall {N ops k o l T σ T1 σ1 v σ0 c f args} (hw : awanted ops T o = some true) (ho : o.op = .call c) (hc : acallee (aev P T) c = some (f, args)) (hen : enterable P f = true) (hv : Run P X (.call f args) σ (.val v) σ0) (hq : σ <+: σ0 ∨ loudOk ops k = true ∨ Late ops T)
      (h : Run P X (.draw N ops (k + 1) l (putT T o.dst v)) σ0 (.ex .normal T1) σ1) : Run P X (.draw N ops k (o :: l) T) σ (.ex .normal T1) σ1
  | call {f args fn c T1 σ σ1 e v} (hf : P.funcs[f]? = some fn) (hb : fn.body = some c) (hok : okCode fn.ntmps c = true) (hres : fn.results.all (okRes fn.ntmps) = true) (hn : args.length ≤ fn.ntmps)
      (h : Run P X (.code fn.ntmps c (fun t => args.getD t undef)) σ (.ex e T1) σ1) (he : e = .normal ∨ e = .ret) (hr : aresults P T1 σ1 fn.results.toList = some v) : Run P X (.call f args) σ (.val v) σ1
  | ext {f args σ v σ1} (h : X f args σ v σ1) : Run P X (.call f args) σ (.val v) σ1

/-! ### the heap only grows -/
theorem aop_len {P : Program} {ρ : Operand → Value} {σ σ' : Heap} {o : Op} {v : Value} (h : aop P ρ σ o = some (v, σ')) : σ.length ≤ σ'.length := by
  cases o <;> simp only [aop] at h <;> try (simp at h; done)
  case alloc => 
    split at h
    · obtain ⟨z, hz, h⟩ := Option.bind_eq_some_iff.1 h
      split at h
      · obtain ⟨rfl, rfl⟩ := Prod.mk.inj (Option.some.inj h); simp
      · simp at h
    · simp at h
  case box =>
    split at h
    · obtain ⟨rfl, rfl⟩ := Prod.mk.inj (Option.some.inj h); simp
    · simp at h
  case pick =>
    split at h
    · obtain ⟨rfl, rfl⟩ := Prod.mk.inj (Option.some.inj h); exact Nat.le_refl _
    · simp at h
  case buildSlice =>
    unfold abuildSlice at h
    split at h
    · split at h
      · obtain ⟨z, hz, h⟩ := Option.bind_eq_some_iff.1 h
        split at h
        · obtain ⟨cs, hcs, h⟩ := Option.map_eq_some_iff.1 h
          obtain ⟨rfl, rfl⟩ := Prod.mk.inj h; simp
        · simp at h
      · simp at h
    · simp at h
  case makeSlice =>
    unfold amakeSlice at h
    split at h
    · split at h
      · obtain ⟨z, hz, h⟩ := Option.bind_eq_some_iff.1 h
        split at h
        · obtain ⟨rfl, rfl⟩ := Prod.mk.inj (Option.some.inj h); simp
        · simp at h
      · simp at h
    · simp at h
  case store =>
    obtain ⟨u, hu, h⟩ := Option.map_eq_some_iff.1 h
    obtain ⟨rfl, rfl⟩ := Prod.mk.inj h
    unfold astore at hu
    split at hu
    · obtain ⟨b, hb, hu⟩ := Option.bind_eq_some_iff.1 hu
      split at hu
      · obtain rfl := Option.some.inj hu; simp
      · simp at hu
    · simp at hu
  case binOp =>
    split at h
    · obtain ⟨u, hu, h⟩ := Option.map_eq_some_iff.1 h
      obtain ⟨rfl, rfl⟩ := Prod.mk.inj h; exact Nat.le_refl _
    · simp at h
  case call c =>
    split at h
    · obtain ⟨u, hu, h⟩ := Option.map_eq_some_iff.1 h
      obtain ⟨rfl, rfl⟩ := Prod.mk.inj h; exact Nat.le_refl _
    · split at h
      · unfold aappend at h
        split at h
        · split at h
          · obtain ⟨z, hz, h⟩ := Option.bind_eq_some_iff.1 h
            split at h
            · obtain ⟨nw, hnw, h⟩ := Option.bind_eq_some_iff.1 h
              split at h
              · split at h
                · split at h
                  · obtain ⟨rfl, rfl⟩ := Prod.mk.inj (Option.some.inj h); simp
                  · split at h
                    · obtain ⟨b, hb, h⟩ := Option.bind_eq_some_iff.1 h
                      split at h
                      · obtain ⟨rfl, rfl⟩ := Prod.mk.inj (Option.some.inj h); simp
                      · simp at h
                    · simp at h
                · simp at h
              · simp at h
            · simp at h
          · simp at h
        · simp at h
      · simp at h
    · simp at h
  all_goals first
    | (obtain ⟨rfl, rfl⟩ := Prod.mk.inj (Option.some.inj h); exact Nat.le_refl _)
    | (obtain ⟨u, hu, h⟩ := Option.map_eq_some_iff.1 h
       obtain ⟨rfl, rfl⟩ := Prod.mk.inj h; exact Nat.le_refl _)
theorem run_len {P : Program} {X : Ext} (hX : ∀ f args σ v σ', X f args σ v σ' → σ.length ≤ σ'.length) {j : Job} {σ σ' : Heap} {o : Out} (h : Run P X j σ o σ') : σ.length ≤ σ'.length := by
  induction h with
  | seqN _ _ ih ih' => exact Nat.le_trans ih ih'
  | loopN _ _ ih ih' => exact Nat.le_trans ih ih'
  | opsStep _ hv _ ih => exact Nat.le_trans (aop_len hv) ih
  | drawStep _ hv _ _ ih => exact Nat.le_trans (aop_len hv) ih
  | opsCall _ _ _ _ _ _ ih ih' => exact Nat.le_trans ih ih'
  | drawCall _ _ _ _ _ _ _ ih ih' => exact Nat.le_trans ih ih'
  | ext h => exact hX _ _ _ _ _ h
  | _ => first | exact Nat.le_refl _ | assumption
end Go.Proofs.YtkgdkommahgakaaDoor.Abs
