/- Part GroupB of the proof: an abstract machine for the program's calls, and what functions do on it. It has no conditions. -/
import Derived.Test.YtkgdkommahgakaaDoorGroupA
import Derived.LoopN
import Derived.IntWalk
import Derived.Attr
import Derived.ChangeArms
import Derived.SizedLaws
/- The abstract machine: code, calls, and the rounds of a loop; what a run there tells of the machine's own calls (regions whose order is drawn: the text behind this one). -/
namespace Go.Proofs.YtkgdkommahgakaaDoor.Abs
open Go Go.RowKit
set_option linter.unusedVariables false
set_option linter.unusedSimpArgs false

inductive AExit where
  | normal
  | exit (id : Nat)
  | ret
def AExit.leave (id : Nat) : AExit → AExit
  | .exit i => if i = id then .normal else .exit i
  | e => e
def AExit.conc : AExit → Exit
  | .normal => .normal
  | .exit i => .exit i
  | .ret => .ret

abbrev Tm := Nat → Value
def putT (T : Tm) (d : Option Tmp) (v : Value) : Tm :=
  match d with
  | some d => fun t => if t = d then v else T t
  | none => T
/-- Is an operation carried out? -/
def awanted (ops : Array Oper) (T : Tm) (o : Oper) : Option Bool :=
  match o.guard with
  | none => some true
  | some (j, want) => match (ops[j]?).bind (·.dst) with
    | none => some false
    | some d => match T d with
      | .bool b => some (b == want)
      | .tuple vs => if vs.size = 0 then some false else none
      | _ => none
def okOpnd (N : Nat) : Operand → Bool
  | .tmp t => decide (t < N)
  | _ => true
def okOper (N : Nat) (o : Oper) : Bool := o.op.operands.all (okOpnd N) && (match o.dst with | some d => decide (d < N) | none => true)
def okCode (N : Nat) : Code → Bool
  | .skip | .exit _ | .ret => true
  | .region _ ops _ => ops.all (okOper N)
  | .seq a b => okCode N a && okCode N b
  | .cond c a b => okOpnd N c && okCode N a && okCode N b
  | .block _ c => okCode N c
  | .loop c => okCode N c
  | _ => false
def okRes (N : Nat) : ResultVar → Bool
  | .tmp t => decide (t < N)
  | .cell a _ => decide (a < N)
def enterable (P : Program) (f : FuncId) : Bool :=
  match P.funcs[f]? with
  | some fn => fn.body.isSome && !(fn.name == "runtime.NumGoroutine")
  | none => false
def aresult (P : Program) (T : Tm) (σ : Heap) : ResultVar → Option Value
  | .tmp t => some (T t)
  | .cell a t => aload P σ t (T a)
def aresults (P : Program) (T : Tm) (σ : Heap) (rs : List ResultVar) : Option Value :=
  (rs.mapM (aresult P T σ)).map fun vs => match vs with | [v] => v | vs => .tuple vs.toArray
def acallee (ρ : Operand → Value) (c : Call) : Option (FuncId × List Value) :=
  match c.callee with
  | .value f => match ρ f with
    | .func (.func g) first captured => some (g, first.toList ++ c.args.toList.map ρ ++ captured.toList)
    | _ => none
  | _ => none

inductive Job where
  | code (N : Nat) (c : Code) (T : Tm)
  | ops (N : Nat) (ops : Array Oper) (k : Nat) (l : List Oper) (T : Tm)
  | draw (N : Nat) (ops : Array Oper) (k : Nat) (l : List Oper) (T : Tm)
  | call (f : FuncId) (args : List Value)
inductive Out where
  | ex (e : AExit) (T : Tm)
  | val (v : Value)
/-- Functions that are told from outside: what they answer. -/
abbrev Ext := FuncId → List Value → Heap → Value → Heap → Prop

/-- Which operations come before which, as a number's bits. -/
def bef (ops : Array Oper) : Array Nat := Region.before ops
def befB (ops : Array Oper) (j i : Nat) : Bool := ((bef ops).getD j 0).testBit i
/-- Two operations of a region: the one waits for the other, or they have nothing in common. -/
def pairOk (ops : Array Oper) (i j : Nat) : Bool :=
  befB ops j i || match ops[i]?, ops[j]? with | some x, some y => x.apart ops y | _, _ => true
/-- An operation that turns memory, in a region that draws: all that looks at memory waits for it, or it waits for that. -/
def loudOk (ops : Array Oper) (e : Nat) : Bool :=
  (List.range ops.size).all fun i => i == e || (match ops[i]? with | some o => heapFree o.op | none => true) || (decide (i < e) && befB ops e i) || (decide (e < i) && befB ops i e)
def edgesOk (ops : Array Oper) : Bool :=
  (List.range ops.size).all fun i => match ops[i]? with | some o => o.after.all fun e => !Region.binds .any e || decide (e.on < i) | none => true
def drawOk (ops : Array Oper) : Bool :=
  Region.noSelect ops && edgesOk ops && (List.range ops.size).all fun j => (List.range j).all fun i => pairOk ops i j

/-! A load that a store does not wait for. -/
def isLd : Oper → Option Tmp
  | ⟨some _, .load _ (.tmp a), _, _, _, none⟩ => some a
  | _ => none
def isSt : Oper → Option Tmp
  | ⟨none, .store _ (.tmp a) _, _, _, _, none⟩ => some a
  | _ => none
def quietOp (o : Oper) : Bool := heapFree o.op || (isLd o).isSome
def stays (ops : Array Oper) (t : Tmp) : Bool := ops.all fun o => match o.dst with | some d => !Nat.beq d t | none => true
def lateLd (ops : Array Oper) (i : Nat) : Option Tmp := match ops[i]? with
  | some o => match isLd o with
    | some a => if stays ops a = true ∧ ((List.range i).all fun j => match ops[j]? with | some o => quietOp o | none => true) = true then some a else none
    | none => none
  | none => none
def lateSt (ops : Array Oper) (e : Nat) : Option Tmp := match ops[e]? with
  | some o => match isSt o with
    | some a => if stays ops a = true ∧ ((List.range ops.size).all fun i => Nat.beq i e || (lateLd ops i).isSome || (match ops[i]? with | some o => heapFree o.op | none => true) || (decide (i < e) && befB ops e i) || (decide (e < i) && befB ops i e)) = true then some a else none
    | none => none
  | none => none
def lateOk (ops : Array Oper) : Bool := (List.range ops.size).all fun e => (match ops[e]? with | some o => quietOp o | none => true) || (lateSt ops e).isSome
def ptrOf : Value → Option Nat
  | .pointer (some ⟨n, _, none⟩) => some n
  | _ => none
/-- Whatever is not quiet is a store, to a block that no late load looks at. -/
def Late (ops : Array Oper) (T : Tm) : Prop := lateOk ops = true ∧ ∀ a ∈ (List.range ops.size).filterMap (lateLd ops), ∀ b ∈ (List.range ops.size).filterMap (lateSt ops), ptrOf (T a) ≠ ptrOf (T b)

inductive Run (P : Program) (X : Ext) : Job → Heap → Out → Heap → Prop
  | skip {N T σ} : Run P X (.code N .skip T) σ (.ex .normal T) σ
  | exit {N T σ id} : Run P X (.code N (.exit id) T) σ (.ex (.exit id) T) σ
  | ret {N T σ} : Run P X (.code N .ret T) σ (.ex .ret T) σ
  | seqN {N a b T T1 σ σ1 o σ2} (h : Run P X (.code N a T) σ (.ex .normal T1) σ1) (h' : Run P X (.code N b T1) σ1 o σ2) : Run P X (.code N (.seq a b) T) σ o σ2
  | seqX {N a b T T1 σ σ1 e} (h : Run P X (.code N a T) σ (.ex e T1) σ1) (he : e ≠ .normal) : Run P X (.code N (.seq a b) T) σ (.ex e T1) σ1
  | cond {N c x y T σ o σ' t} (hc : aev P T c = .bool t) (h : Run P X (.code N (if t = true then x else y) T) σ o σ') : Run P X (.code N (.cond c x y) T) σ o σ'
  | block {N id c T T1 σ σ1 e} (h : Run P X (.code N c T) σ (.ex e T1) σ1) : Run P X (.code N (.block id c) T) σ (.ex (e.leave id) T1) σ1
  | loopN {N c T T1 σ σ1 o σ2} (h : Run P X (.code N c T) σ (.ex .normal T1) σ1) (h' : Run P X (.code N (.loop c) T1) σ1 o σ2) : Run P X (.code N (.loop c) T) σ o σ2
  | loopX {N c T T1 σ σ1 e} (h : Run P X (.code N c T) σ (.ex e T1) σ1) (he : e ≠ .normal) : Run P X (.code N (.loop c) T) σ (.ex e T1) σ1
  | region {N id ops T T1 σ σ1} (h : Run P X (.ops N ops 0 ops.toList T) σ (.ex .normal T1) σ1) : Run P X (.code N (.region id ops false) T) σ (.ex .normal T1) σ1
  | regionDraw {N id ops T T1 σ σ1} (hd : drawOk ops = true) (h : Run P X (.draw N ops 0 ops.toList T) σ (.ex .normal T1) σ1) : Run P X (.code N (.region id ops true) T) σ (.ex .normal T1) σ1
  | opsNil {N ops k T σ} : Run P X (.ops N ops k [] T) σ (.ex .normal T) σ
  | opsSkip {N ops k o l T σ T1 σ1} (hw : awanted ops T o = some false) (h : Run P X (.ops N ops (k + 1) l (putT T o.dst undef)) σ (.ex .normal T1) σ1) : Run P X (.ops N ops k (o :: l) T) σ (.ex .normal T1) σ1
  | opsStep {N ops k o l T σ T1 σ1 v σ0} (hw : awanted ops T o = some true) (hv : aop P (aev P T) σ o.op = some (v, σ0)) (h : Run P X (.ops N ops (k + 1) l (putT T o.dst v)) σ0 (.ex .normal T1) σ1) :
      Run P X (.ops N ops k (o :: l) T) σ (.ex .normal T1) σ1
  | opsCall {N ops k o l T σ T1 σ1 v σ0 c f args} (hw : awanted ops T o = some true) (ho : o.op = .call c) (hc : acallee (aev P T) c = some (f, args)) (hen : enterable P f = true) (hv : Run P X (.call f args) σ (.val v) σ0)
      (h : Run P X (.ops N ops (k + 1) l (putT T o.dst v)) σ0 (.ex .normal T1) σ1) : Run P X (.ops N ops k (o :: l) T) σ (.ex .normal T1) σ1
  | drawNil {N ops k T σ} : Run P X (.draw N ops k [] T) σ (.ex .normal T) σ
  | drawSkip {N ops k o l T σ T1 σ1} (hw : awanted ops T o = some false) (h : Run P X (.draw N ops (k + 1) l (putT T o.dst undef)) σ (.ex .normal T1) σ1) : Run P X (.draw N ops k (o :: l) T) σ (.ex .normal T1) σ1
  | drawStep {N ops k o l T σ T1 σ1 v σ0} (hw : awanted ops T o = some true) (hv : aop P (aev P T) σ o.op = some (v, σ0)) (hq : heapFree o.op = true ∨ σ <+: σ0 ∨ loudOk ops k = true ∨ Late ops T)
      (h : Run P X (.draw N ops (k + 1) l (putT T o.dst v)) σ0 (.ex .normal T1) σ1) : Run P X (.draw N ops k (o :: l) T) σ (.ex .normal T1) σ1
  | drawCall {N ops k o l T σ T1 σ1 v σ0 c f args} (hw : awanted ops T o = some true) (ho : o.op = .call c) (hc : acallee (aev P T) c = some (f, args)) (hen : enterable P f = true) (hv : Run P X (.call f args) σ (.val v) σ0) (hq : σ <+: σ0 ∨ loudOk ops k = true ∨ Late ops T)
      (h : Run P X (.draw N ops (k + 1) l (putT T o.dst v)) σ0 (.ex .normal T1) σ1) : Run P X (.draw N ops k (o :: l) T) σ (.ex .normal T1) σ1
  | call {f args fn c T1 σ σ1 e v} (hf : P.funcs[f]? = some fn) (hb : fn.body = some c) (hok : okCode fn.ntmps c = true) (hres : fn.results.all (okRes fn.ntmps) = true) (hn : args.length ≤ fn.ntmps)
      (h : Run P X (.code fn.ntmps c (fun t => args.getD t undef)) σ (.ex e T1) σ1) (he : e = .normal ∨ e = .ret) (hr : aresults P T1 σ1 fn.results.toList = some v) : Run P X (.call f args) σ (.val v) σ1
  | ext {f args σ v σ1} (h : X f args σ v σ1) : Run P X (.call f args) σ (.val v) σ1

/-! ### the heap only grows -/
theorem aop_len {P : Program} {ρ : Operand → Value} {σ σ' : Heap} {o : Op} {v : Value} (h : aop P ρ σ o = some (v, σ')) : σ.length ≤ σ'.length := by
  cases o <;> simp only [aop] at h <;> try (simp at h; done)
  case alloc => 
    split at h
    · obtain ⟨z, hz, h⟩ := Option.bind_eq_some_iff.1 h
      split at h
      · obtain ⟨rfl, rfl⟩ := Prod.mk.inj (Option.some.inj h); simp
      · simp at h
    · simp at h
  case box =>
    split at h
    · obtain ⟨rfl, rfl⟩ := Prod.mk.inj (Option.some.inj h); simp
    · simp at h
  case pick =>
    split at h
    · obtain ⟨rfl, rfl⟩ := Prod.mk.inj (Option.some.inj h); exact Nat.le_refl _
    · simp at h
  case buildSlice =>
    unfold abuildSlice at h
    split at h
    · split at h
      · obtain ⟨z, hz, h⟩ := Option.bind_eq_some_iff.1 h
        split at h
        · obtain ⟨cs, hcs, h⟩ := Option.map_eq_some_iff.1 h
          obtain ⟨rfl, rfl⟩ := Prod.mk.inj h; simp
        · simp at h
      · simp at h
    · simp at h
  case makeSlice =>
    unfold amakeSlice at h
    split at h
    · split at h
      · obtain ⟨z, hz, h⟩ := Option.bind_eq_some_iff.1 h
        split at h
        · obtain ⟨rfl, rfl⟩ := Prod.mk.inj (Option.some.inj h); simp
        · simp at h
      · simp at h
    · simp at h
  case store =>
    obtain ⟨u, hu, h⟩ := Option.map_eq_some_iff.1 h
    obtain ⟨rfl, rfl⟩ := Prod.mk.inj h
    unfold astore at hu
    split at hu
    · obtain ⟨b, hb, hu⟩ := Option.bind_eq_some_iff.1 hu
      split at hu
      · obtain rfl := Option.some.inj hu; simp
      · simp at hu
    · simp at hu
  case binOp =>
    split at h
    · obtain ⟨u, hu, h⟩ := Option.map_eq_some_iff.1 h
      obtain ⟨rfl, rfl⟩ := Prod.mk.inj h; exact Nat.le_refl _
    · simp at h
  case call c =>
    split at h
    · obtain ⟨u, hu, h⟩ := Option.map_eq_some_iff.1 h
      obtain ⟨rfl, rfl⟩ := Prod.mk.inj h; exact Nat.le_refl _
    · split at h
      · unfold aappend at h
        split at h
        · split at h
          · obtain ⟨z, hz, h⟩ := Option.bind_eq_some_iff.1 h
            split at h
            · obtain ⟨nw, hnw, h⟩ := Option.bind_eq_some_iff.1 h
              split at h
              · split at h
                · split at h
                  · obtain ⟨rfl, rfl⟩ := Prod.mk.inj (Option.some.inj h); simp
                  · split at h
                    · obtain ⟨b, hb, h⟩ := Option.bind_eq_some_iff.1 h
                      split at h
                      · obtain ⟨rfl, rfl⟩ := Prod.mk.inj (Option.some.inj h); simp
                      · simp at h
                    · simp at h
                · simp at h
              · simp at h
            · simp at h
          · simp at h
        · simp at h
      · simp at h
    · simp at h
  all_goals first
    | (obtain ⟨rfl, rfl⟩ := Prod.mk.inj (Option.some.inj h); exact Nat.le_refl _)
    | (obtain ⟨u, hu, h⟩ := Option.map_eq_some_iff.1 h
       obtain ⟨rfl, rfl⟩ := Prod.mk.inj h; exact Nat.le_refl _)
theorem run_len {P : Program} {X : Ext} (hX : ∀ f args σ v σ', X f args σ v σ' → σ.length ≤ σ'.length) {j : Job} {σ σ' : Heap} {o : Out} (h : Run P X j σ o σ') : σ.length ≤ σ'.length := by
  induction h with
  | seqN _ _ ih ih' => exact Nat.le_trans ih ih'
  | loopN _ _ ih ih' => exact Nat.le_trans ih ih'
  | opsStep _ hv _ ih => exact Nat.le_trans (aop_len hv) ih
  | drawStep _ hv _ _ ih => exact Nat.le_trans (aop_len hv) ih
  | opsCall _ _ _ _ _ _ ih ih' => exact Nat.le_trans ih ih'
  | drawCall _ _ _ _ _ _ _ ih ih' => exact Nat.le_trans ih ih'
  | ext h => exact hX _ _ _ _ _ h
  | _ => first | exact Nat.le_refl _ | assumption
end Go.Proofs.YtkgdkommahgakaaDoor.Abs

/- The abstract machine: a region whose order is drawn. Whatever order comes up, the text's order tells what it leaves. -/
namespace Go.Proofs.YtkgdkommahgakaaDoor.Abs
open Go Go.RowKit
set_option linter.unusedVariables false
set_option linter.unusedSimpArgs false

def Fresh (β : Map) (σ σ' : Heap) : Prop := ∀ n, σ.length ≤ n → n < σ'.length → β n = none
def RelT (β : Map) (N : Nat) (T : Tm) (tmps : Array Value) : Prop := tmps.size = N ∧ ∀ t, t < N → Rel β (T t) (tmps.getD t undef)

/-- An operation (or the call that it is) does in the world what it does in the abstract machine. -/
def OpSound (P : Program) (base : Nat) (o : Oper) (T : Tm) (σ : Heap) (v : Value) (σ' : Heap) : Prop :=
  ∀ (β : Map) (a : Act) (w : World), (∀ x ∈ o.op.operands.toList, Rel β (aev P T x) (a.eval x)) → Sim base P.globals.size β σ w → Fresh β σ σ' →
    ∀ (next : Act → World → Prop) (Q : Exit → Act → World → Prop), (∀ v' w' β', Rel β' v v' → Sim base P.globals.size β' σ' w' → Step β σ w β' σ' w' → next (a.put o.dst v') w') → o.wp P a w next Q

theorem opSound_of_aop {P : Program} {base : Nat} {o : Oper} {T : Tm} {σ σ' : Heap} {v : Value} (h : aop P (aev P T) σ o.op = some (v, σ')) : OpSound P base o T σ v σ' := by
  intro β a w hx hs hf next Q hn
  obtain ⟨v', w', β', hr, h1, h2, h3⟩ := aop_sound (o := o) hx hs hf h
  unfold Oper.wp
  rcases hr with hr | ⟨hr, rfl⟩
  · rw [hr]
    exact hn v' w' β' h1 h2 h3
  · rw [hr]
    exact hn undef w' β' h1 h2 h3

/-! ### which operations wait for which -/
section
variable {ops : Array Oper}

theorem fold_edges (acc : Array Nat) : ∀ (l : List Edge) (s i : Nat), (l.foldl (fun s e => if Region.binds .any e = true then s ||| 2 ^ e.on ||| acc.getD e.on 0 else s) s).testBit i = true →
    s.testBit i = true ∨ ∃ e ∈ l, Region.binds .any e = true ∧ (e.on = i ∨ (acc.getD e.on 0).testBit i = true)
  | [], s, i, h => .inl h
  | e :: l, s, i, h => by
    rw [List.foldl_cons] at h
    rcases fold_edges acc l _ i h with h | ⟨e', he', h⟩
    · split at h
      · rename_i hb
        simp only [Nat.testBit_or, Bool.or_eq_true] at h
        rcases h with (h | h) | h
        · exact .inl h
        · refine .inr ⟨e, by simp, hb, .inl ?_⟩
          rw [Nat.testBit_two_pow] at h
          simpa using h
        · exact .inr ⟨e, by simp, hb, .inr h⟩
      · exact .inl h
    · exact .inr ⟨e', by simp [he'], h⟩

theorem bef_all : ∀ (l : List Oper) (acc : Array Nat) (j i : Nat), ((l.foldl (fun (acc : Array Nat) (o : Oper) => acc.push (o.after.foldl (fun s e => if Region.binds .any e = true then s ||| 2 ^ e.on ||| acc.getD e.on 0 else s) 0)) acc).getD j 0).testBit i = true →
    (acc.getD j 0).testBit i = true ∨ (acc.size ≤ j ∧ ∃ o, l[j - acc.size]? = some o ∧ ∃ e ∈ o.after.toList, Region.binds .any e = true ∧ (e.on = i ∨ (e.on < j ∧ ((l.foldl (fun (acc : Array Nat) (o : Oper) => acc.push (o.after.foldl (fun s e => if Region.binds .any e = true then s ||| 2 ^ e.on ||| acc.getD e.on 0 else s) 0)) acc).getD e.on 0).testBit i = true)))
  | [], acc, j, i, h => .inl h
  | o :: l, acc, j, i, h => by
    rw [List.foldl_cons] at h
    have keep : ∀ (l : List Oper) (acc : Array Nat) (k : Nat), k < acc.size → (l.foldl (fun (acc : Array Nat) (o : Oper) => acc.push (o.after.foldl (fun s e => if Region.binds .any e = true then s ||| 2 ^ e.on ||| acc.getD e.on 0 else s) 0)) acc).getD k 0 = acc.getD k 0 := by
      intro l
      induction l with
      | nil => intro acc k _; rfl
      | cons x l ih =>
        intro acc k hk
        rw [List.foldl_cons, ih _ k (by simp; omega)]
        simp [Array.getElem?_push, show k ≠ acc.size by omega]
    rcases bef_all l _ j i h with h1 | ⟨h1, o', ho', e, he, hb, h2⟩
    · by_cases hj : j < acc.size
      · left
        simpa [Array.getElem?_push, show j ≠ acc.size by omega] using h1
      · by_cases hj2 : j = acc.size
        · subst hj2
          right
          refine ⟨Nat.le_refl _, o, by simp, ?_⟩
          have h3 : (o.after.foldl (fun s e => if Region.binds .any e = true then s ||| 2 ^ e.on ||| acc.getD e.on 0 else s) 0).testBit i = true := by
            simpa [Array.getElem?_push] using h1
          rw [← Array.foldl_toList] at h3
          rcases fold_edges acc _ _ _ h3 with h3 | ⟨e, he, hb, h3⟩
          · simp at h3
          · refine ⟨e, he, hb, ?_⟩
            rcases h3 with h3 | h3
            · exact .inl h3
            · have hlt : e.on < acc.size := by
                rcases Nat.lt_or_ge e.on acc.size with h4 | h4
                · exact h4
                · rw [Array.getD_eq_getD_getElem?, Array.getElem?_eq_none h4] at h3
                  simp at h3
              refine .inr ⟨hlt, ?_⟩
              rw [List.foldl_cons, keep l _ e.on (by simp; omega)]
              simpa [Array.getElem?_push, show e.on ≠ acc.size by omega] using h3
        · rw [Array.getD_eq_getD_getElem?, Array.getElem?_eq_none (by simp; omega)] at h1
          simp at h1
    · right
      simp only [Array.size_push] at h1 ho'
      refine ⟨by omega, o', ?_, e, he, hb, ?_⟩
      · rw [show j - acc.size = (j - (acc.size + 1)) + 1 by omega, List.getElem?_cons_succ]
        exact ho'
      · rw [List.foldl_cons]
        exact h2

theorem bef_spec {j i : Nat} (h : befB ops j i = true) : ∃ o, ops[j]? = some o ∧ ∃ e ∈ o.after, Region.binds .any e = true ∧ (e.on = i ∨ (e.on < j ∧ befB ops e.on i = true)) := by
  unfold befB bef Region.before at h
  rw [← Array.foldl_toList] at h
  rcases bef_all ops.toList #[] j i h with h | ⟨_, o, ho, e, he, hb, h2⟩
  · simp at h
  · refine ⟨o, by simpa using ho, e, by simpa using he, hb, ?_⟩
    rcases h2 with h2 | ⟨h2, h3⟩
    · exact .inl h2
    · refine .inr ⟨h2, ?_⟩
      unfold befB bef Region.before
      rw [← Array.foldl_toList]
      exact h3

/-- What has come up holds all that it waited for. -/
def Closed (ops : Array Oper) (listed : Array Bool) : Prop := ∀ j o, ops[j]? = some o → listed.getD j false = true → ∀ e ∈ o.after, Region.binds .any e = true → listed.getD e.on false = true
theorem closed_bef {listed : Array Bool} (hc : Closed ops listed) : ∀ (j i : Nat), befB ops j i = true → listed.getD j false = true → listed.getD i false = true := by
  intro j
  induction j using Nat.strongRecOn with
  | _ j ih =>
    intro i h hj
    obtain ⟨o, ho, e, he, hb, h2⟩ := bef_spec h
    have h3 := hc j o ho hj e he hb
    rcases h2 with h2 | ⟨h2, h4⟩
    · exact h2 ▸ h3
    · exact ih e.on h2 i h4 h3
/-- What is ready has nothing left to wait for. -/
theorem ready_bef {listed : Array Bool} (hc : Closed ops listed) {i k : Nat} (hr : i ∈ Region.ready .any ops listed) (h : befB ops i k = true) : listed.getD k false = true := by
  obtain ⟨o, ho, e, he, hb, h2⟩ := bef_spec h
  obtain ⟨_, o', ho', hall⟩ := mem_ready.1 hr
  rw [ho] at ho'
  obtain rfl := Option.some.inj ho'
  have h3 := hall e he hb
  rcases h2 with h2 | ⟨_, h4⟩
  · exact h2 ▸ h3
  · exact closed_bef hc _ _ h4 h3
end

/-! ### heaps that begin alike -/
theorem look_prefix {σ σ' : Heap} (h : σ <+: σ') {n : Nat} {b : Blk} (hb : look σ n = some b) : look σ' n = some b := by
  obtain ⟨t, rfl⟩ := h
  have := look_lt hb
  unfold look at hb ⊢
  rw [List.getElem?_append_left this]
  exact hb
theorem look_prefix' {σ σ' : Heap} (h : σ <+: σ') {n : Nat} (hn : n < σ.length) : look σ' n = look σ n := by
  obtain ⟨t, rfl⟩ := h
  unfold look
  rw [List.getElem?_append_left hn]
theorem Sim.shorter {base G : Nat} {β : Map} {σ σ' : Heap} {w : World} (h : σ <+: σ') (hs : Sim base G β σ' w) : Sim base G β σ w :=
  ⟨hs.size, fun n cb b h1 h2 => hs.holds n cb b h1 (look_prefix h h2), fun n cb b h1 h2 => hs.ge n cb b h1 (look_prefix h h2),
    fun n m cb cb' b b' h0 h1 h2 h3 h4 => hs.disj n m cb cb' b b' h0 h1 h2 (look_prefix h h3) (look_prefix h h4), hs.glob⟩

theorem Holds.later {β β' : Map} {cb : CB} {b : Blk} {w w' : World} (h : Holds β cb b w) (hsub : ∀ n c, β n = some c → β' n = some c) (he : w'.heap[cb.blk]? = w.heap[cb.blk]?) : Holds β' cb b w' := by
  obtain ⟨c, e, frz, h1, h2, h3, h4⟩ := h.obj
  refine ⟨⟨c, e, frz, by rw [he]; exact h1, h2, h3, fun i v hv => ?_⟩, h.len, h.own, h.sz, h.one⟩
  obtain ⟨v', h5, h6⟩ := h4 i v hv
  exact ⟨v', h5, h6.mono hsub⟩

/-- A quiet step from a shorter heap: the longer one holds still. -/
theorem sim_quiet {base G : Nat} {β β' : Map} {σ σ' σ2 : Heap} {w w' : World} (h1 : σ <+: σ') (h2 : σ' <+: σ2) (hs2 : Sim base G β σ2 w) (hs' : Sim base G β' σ' w') (st : Step β σ w β' σ' w') : Sim base G β' σ2 w' := by
  have lt : ∀ n cb b, β n = some cb → look σ2 n = some b → cb.blk < w.heap.size := fun n cb b ha hb => by
    obtain ⟨c, e, frz, hc, _⟩ := (hs2.holds n cb b ha hb).obj
    exact (Array.getElem?_eq_some_iff.1 hc).1
  have old : ∀ n cb b, σ'.length ≤ n → β' n = some cb → look σ2 n = some b → β n = some cb := fun n cb b hn ha hb => by
    rcases st.dom n cb ha with h | ⟨_, _, h, _⟩
    · exact h
    · omega
  have same : ∀ n cb b, σ'.length ≤ n → β' n = some cb → look σ2 n = some b → w'.heap[cb.blk]? = w.heap[cb.blk]? := fun n cb b hn ha hb => by
    have hb0 := old n cb b hn ha hb
    refine st.frame cb.blk (lt n cb b hb0 hb) fun m b' cb' hm hcb' hco => ?_
    have hm2 := look_prefix (h1.trans h2) hm
    have hml := look_lt hm
    have hl := h1.length_le
    exact hs2.disj m n cb' cb b' b (by omega) hcb' hb0 hm2 hb hco
  -- a name of the step's own, that is not killed in it, lies in a new block
  have new : ∀ n cb b, n < σ'.length → look σ2 n = some b → β' n = some cb → β n = none → w.heap.size ≤ cb.blk := fun n cb b hn hb ha h0 => by
    rcases st.dom n cb ha with h | ⟨_, h3, _, hco, h4⟩
    · rw [h0] at h; simp at h
    · rcases h4 with h4 | ⟨k, b', ck, hk, hck, hcko, hckb⟩
      · exact h4
      · exfalso
        have hk' := look_prefix h1 hk
        have hkl := look_lt hk
        exact hs'.disj k n ck cb b' b (by omega) (st.sub k ck hck) ha hk' (by rw [← look_prefix' h2 hn]; exact hb) hcko hckb
  refine ⟨Nat.le_trans hs2.size st.size, fun n cb b ha hb => ?_, fun n cb b ha hb hco => ?_, fun n m cb cb' b b' hnm ha ha' hb hb' hco => ?_, hs'.glob⟩
  · rcases Nat.lt_or_ge n σ'.length with hn | hn
    · exact hs'.holds n cb b ha (by rw [← look_prefix' h2 hn]; exact hb)
    · exact (hs2.holds n cb b (old n cb b hn ha hb) hb).later st.sub (same n cb b hn ha hb)
  · rcases Nat.lt_or_ge n σ'.length with hn | hn
    · exact hs'.ge n cb b ha (by rw [← look_prefix' h2 hn]; exact hb) hco
    · exact hs2.ge n cb b (old n cb b hn ha hb) hb hco
  · rcases Nat.lt_or_ge n σ'.length with hn | hn
    · rcases Nat.lt_or_ge m σ'.length with hm | hm
      · exact hs'.disj n m cb cb' b b' hnm ha ha' (by rw [← look_prefix' h2 hn]; exact hb) (by rw [← look_prefix' h2 hm]; exact hb') hco
      · have hm0 := old m cb' b' hm ha' hb'
        have hlt := lt m cb' b' hm0 hb'
        cases hn0 : β n with
        | none =>
          have := new n cb b hn hb ha hn0
          omega
        | some c0 =>
          have e := st.sub n c0 hn0
          rw [ha] at e
          obtain rfl := Option.some.inj e
          exact hs2.disj n m cb cb' b b' hnm hn0 hm0 hb hb' hco
    · have hn0 := old n cb b hn ha hb
      have hlt := lt n cb b hn0 hb
      rcases Nat.lt_or_ge m σ'.length with hm | hm
      · cases hm0 : β m with
        | none =>
          have := new m cb' b' hm hb' ha' hm0
          omega
        | some c0 =>
          have e := st.sub m c0 hm0
          rw [ha'] at e
          obtain rfl := Option.some.inj e
          exact hs2.disj n m cb cb' b b' hnm hn0 hm0 hb hb' hco
      · exact hs2.disj n m cb cb' b b' hnm hn0 (old m cb' b' hm ha' hb') hb hb' hco

/-- Names beyond a heap that stand nowhere: a longer heap holds as well. -/
theorem sim_beyond {base G : Nat} {β : Map} {σ σ2 : Heap} {w : World} (h : σ <+: σ2) (hs : Sim base G β σ w) (hf : ∀ n, σ.length ≤ n → n < σ2.length → β n = none) : Sim base G β σ2 w := by
  have lk : ∀ n cb b, β n = some cb → look σ2 n = some b → look σ n = some b := fun n cb b ha hb => by
    rcases Nat.lt_or_ge n σ.length with hn | hn
    · rw [← look_prefix' h hn]; exact hb
    · rw [hf n hn (look_lt hb)] at ha; simp at ha
  exact ⟨hs.size, fun n cb b ha hb => hs.holds n cb b ha (lk n cb b ha hb), fun n cb b ha hb => hs.ge n cb b ha (lk n cb b ha hb),
    fun n m cb cb' b b' h0 ha ha' hb hb' => hs.disj n m cb cb' b b' h0 ha ha' (lk n cb b ha hb) (lk m cb' b' ha' hb'), hs.glob⟩
end Go.Proofs.YtkgdkommahgakaaDoor.Abs

/- The abstract machine: a region whose order is drawn: the proof that the text's order serves every order. -/
namespace Go.Proofs.YtkgdkommahgakaaDoor.Abs
open Go Go.RowKit
set_option linter.unusedVariables false
set_option linter.unusedSimpArgs false

/-- A load whose block nothing in the region touches, ahead of all that turns memory. -/
def Steady (P : Program) (base : Nat) (ops : Array Oper) (τ : Nat → Tm) (η : Nat → Heap) (i : Nat) (o : Oper) : Prop :=
  η (i + 1) = η i ∧ (∀ j, j < i → η j <+: η (j + 1)) ∧ ∃ v, τ (i + 1) = putT (τ i) o.dst v ∧ ∀ j, i ≤ j → j ≤ ops.size → OpSound P base o (τ i) (η j) v (η j)
/-- An operation that does nothing to memory and looks at none, here. -/
def FreeAt (P : Program) (base : Nat) (ops : Array Oper) (τ : Nat → Tm) (η : Nat → Heap) (i : Nat) : Prop :=
  ∃ o, ops[i]? = some o ∧ (awanted ops (τ i) o = some false ∨ heapFree o.op = true ∨ Steady P base ops τ η i o)
/-- All that looks at memory waits for it, or it waits for that. -/
def LoudFine (P : Program) (base : Nat) (ops : Array Oper) (τ : Nat → Tm) (η : Nat → Heap) (e : Nat) : Prop :=
  ∀ i o, ops[i]? = some o → i ≠ e → FreeAt P base ops τ η i ∨ (i < e ∧ befB ops e i = true) ∨ (e < i ∧ befB ops i e = true)
/-- A region's walk in the text's order: frames and heaps, operation by operation. -/
structure Trace (P : Program) (base N : Nat) (ops : Array Oper) (τ : Nat → Tm) (η : Nat → Heap) : Prop where
  step : ∀ i o, ops[i]? = some o → (awanted ops (τ i) o = some false ∧ τ (i + 1) = putT (τ i) o.dst undef ∧ η (i + 1) = η i) ∨
    (awanted ops (τ i) o = some true ∧ ∃ v, τ (i + 1) = putT (τ i) o.dst v ∧ OpSound P base o (τ i) (η i) v (η (i + 1)) ∧ (η i).length ≤ (η (i + 1)).length ∧
      ((heapFree o.op = true ∧ η (i + 1) = η i ∧ ∀ σ1, OpSound P base o (τ i) σ1 v σ1) ∨ (heapFree o.op = false ∧ (η i <+: η (i + 1) ∨ LoudFine P base ops τ η i))))

def LoudAt (P : Program) (base : Nat) (ops : Array Oper) (τ : Nat → Tm) (η : Nat → Heap) (i : Nat) : Prop :=
  i < ops.size ∧ ¬ FreeAt P base ops τ η i ∧ ¬ (η i <+: η (i + 1))

section
variable {P : Program} {base N : Nat} {ops : Array Oper} {τ : Nat → Tm} {η : Nat → Heap}

theorem free_same (tr : Trace P base N ops τ η) {i : Nat} (h : FreeAt P base ops τ η i) : η (i + 1) = η i := by
  obtain ⟨o, ho, h⟩ := h
  rcases tr.step i o ho with ⟨_, _, h1⟩ | ⟨hw, v, _, _, _, h1⟩
  · exact h1
  · rcases h1 with ⟨_, h1, _⟩ | ⟨h0, _⟩
    · exact h1
    · rcases h with h | h | h
      · rw [hw] at h; simp at h
      · rw [h] at h0; simp at h0
      · exact h.1
theorem loud_ok (tr : Trace P base N ops τ η) {i : Nat} (h : LoudAt P base ops τ η i) : LoudFine P base ops τ η i := by
  obtain ⟨h1, h2, h3⟩ := h
  obtain ⟨o, ho⟩ : ∃ o, ops[i]? = some o := ⟨_, Array.getElem?_eq_getElem h1⟩
  rcases tr.step i o ho with ⟨hw, _, _⟩ | ⟨hw, v, _, _, _, h4⟩
  · exact absurd ⟨o, ho, .inl hw⟩ h2
  · rcases h4 with ⟨h4, _⟩ | ⟨_, h4 | h4⟩
    · exact absurd ⟨o, ho, .inr (.inl h4)⟩ h2
    · exact absurd h4 h3
    · exact h4
/-- Between two places without a loud operation the heap only gets longer. -/
theorem calm (tr : Trace P base N ops τ η) {j : Nat} : ∀ (d : Nat), j + d ≤ ops.size → (∀ i, j ≤ i → i < j + d → ¬ LoudAt P base ops τ η i) → η j <+: η (j + d)
  | 0, _, _ => List.prefix_refl _
  | d + 1, h1, h2 => by
    have h3 := calm tr d (by omega) fun i ha hb => h2 i ha (by omega)
    refine h3.trans ?_
    by_cases hf : FreeAt P base ops τ η (j + d)
    · rw [show j + (d + 1) = j + d + 1 by omega, free_same tr hf]
      exact List.prefix_refl _
    · by_cases hp : η (j + d) <+: η (j + d + 1)
      · exact hp
      · exact absurd ⟨by omega, hf, hp⟩ (h2 (j + d) (by omega) (by omega))
/-- The next loud operation, or the end. -/
theorem next_loud : ∀ (d i : Nat), i + d = ops.size → ∃ l, i ≤ l ∧ l ≤ ops.size ∧ (∀ j, i ≤ j → j < l → ¬ LoudAt P base ops τ η j) ∧ (l = ops.size ∨ LoudAt P base ops τ η l)
  | 0, i, h => ⟨i, Nat.le_refl _, by omega, fun j h1 h2 => by omega, .inl (by omega)⟩
  | d + 1, i, h => by
    by_cases hl : LoudAt P base ops τ η i
    · exact ⟨i, Nat.le_refl _, by omega, fun j h1 h2 => by omega, .inr hl⟩
    · obtain ⟨l, h1, h2, h3, h4⟩ := next_loud d (i + 1) (by omega)
      refine ⟨l, by omega, h2, fun j ha hb => ?_, h4⟩
      by_cases hj : j = i
      · exact hj ▸ hl
      · exact h3 j (by omega) hb

theorem len_mono (tr : Trace P base N ops τ η) {j : Nat} : ∀ (d : Nat), j + d ≤ ops.size → (η j).length ≤ (η (j + d)).length
  | 0, _ => Nat.le_refl _
  | d + 1, h => by
    have h1 := len_mono tr (j := j) d (by omega)
    refine Nat.le_trans h1 ?_
    obtain ⟨o, ho⟩ : ∃ o, ops[j + d]? = some o := ⟨_, Array.getElem?_eq_getElem (by omega)⟩
    rw [show j + (d + 1) = j + d + 1 by omega]
    rcases tr.step _ o ho with ⟨_, _, h2⟩ | ⟨_, v, _, _, h2, _⟩
    · rw [h2]; exact Nat.le_refl _
    · exact h2
theorem len_le (tr : Trace P base N ops τ η) {i j : Nat} (h : i ≤ j) (hj : j ≤ ops.size) : (η i).length ≤ (η j).length := by
  have := len_mono tr (j := i) (j - i) (by omega)
  rwa [show i + (j - i) = j by omega] at this

theorem pair_ok (hd : drawOk ops = true) {i j : Nat} (hij : i < j) (hj : j < ops.size) : pairOk ops i j = true := by
  simp only [drawOk, Bool.and_eq_true, List.all_eq_true, List.mem_range] at hd
  exact hd.2 j hj i hij
theorem pair_spec (hd : drawOk ops = true) {i j : Nat} (hij : i < j) {x y : Oper} (hx : ops[i]? = some x) (hy : ops[j]? = some y) : befB ops j i = true ∨ x.apart ops y = true := by
  have := pair_ok hd hij (Array.getElem?_eq_some_iff.1 hy).1
  simpa [pairOk, hx, hy] using this
theorem loud_spec {e : Nat} (h : LoudFine P base ops τ η e) {i : Nat} {o : Oper} (ho : ops[i]? = some o) (hne : i ≠ e) (hf : ¬ FreeAt P base ops τ η i) : (i < e ∧ befB ops e i = true) ∨ (e < i ∧ befB ops i e = true) := by
  rcases h i o ho hne with h | h
  · exact absurd h hf
  · exact h
theorem loud_spec' {e : Nat} (h : loudOk ops e = true) {i : Nat} {o : Oper} (ho : ops[i]? = some o) (hne : i ≠ e) (hf : heapFree o.op = false) : (i < e ∧ befB ops e i = true) ∨ (e < i ∧ befB ops i e = true) := by
  simp only [loudOk, List.all_eq_true, List.mem_range] at h
  have := h i (Array.getElem?_eq_some_iff.1 ho).1
  simpa [ho, hne, hf] using this

theorem putT_ne {T : Tm} {d : Option Tmp} {v : Value} {t : Nat} (h : d ≠ some t) : putT T d v t = T t := by
  unfold putT
  split
  · rename_i d'
    rw [if_neg (fun he => h (by rw [he]))]
  · rfl
theorem putT_eq {T : Tm} {v : Value} {t : Nat} : putT T (some t) v t = v := by simp [putT]
theorem step_T (tr : Trace P base N ops τ η) {i : Nat} {o : Oper} (ho : ops[i]? = some o) {t : Nat} (h : o.dst ≠ some t) : τ (i + 1) t = τ i t := by
  rcases tr.step i o ho with ⟨_, h1, _⟩ | ⟨_, v, h1, _⟩
  · rw [h1, putT_ne h]
  · rw [h1, putT_ne h]
/-- A temporary that nobody writes in between. -/
theorem still_T (tr : Trace P base N ops τ η) {m t : Nat} : ∀ (d : Nat), m + d ≤ ops.size → (∀ k o, m ≤ k → k < m + d → ops[k]? = some o → o.dst ≠ some t) → τ (m + d) t = τ m t
  | 0, _, _ => rfl
  | d + 1, h, hw => by
    obtain ⟨o, ho⟩ : ∃ o, ops[m + d]? = some o := ⟨_, Array.getElem?_eq_getElem (by omega)⟩
    rw [show m + (d + 1) = m + d + 1 by omega, step_T tr ho (hw _ o (by omega) (by omega) ho)]
    exact still_T tr d (by omega) fun k o h1 h2 => hw k o h1 (by omega)

/-- What holds of a temporary when some operations have come up: it is as behind the last of them that writes it. -/
def TempOk (N : Nat) (ops : Array Oper) (τ : Nat → Tm) (listed : Array Bool) (β : Map) (tmps : Array Value) (t : Nat) : Prop :=
  ∃ m, m ≤ ops.size ∧ (m = 0 ∨ ∃ o, ops[m - 1]? = some o ∧ 0 < m ∧ o.dst = some t ∧ listed.getD (m - 1) false = true) ∧
    (∀ j o, m ≤ j → ops[j]? = some o → o.dst = some t → listed.getD j false = false) ∧ Rel β (τ m t) (tmps.getD t undef)

/-- At an operation that is ready each temporary that it looks at is as the text has it there. -/
theorem temp_at (tr : Trace P base N ops τ η) (hd : drawOk ops = true) {listed : Array Bool} (hsz : listed.size = ops.size) (hc : Closed ops listed) {i : Nat} {o : Oper} (ho : ops[i]? = some o) (hr : i ∈ Region.ready .any ops listed)
    {β : Map} {tmps : Array Value} {t : Nat} (ht : TempOk N ops τ listed β tmps t) (hl : t ∈ o.looksAt ops) : Rel β (τ i t) (tmps.getD t undef) := by
  obtain ⟨m, hm, h1, h2, h3⟩ := ht
  have hi := (Array.getElem?_eq_some_iff.1 ho).1
  have hun := (mem_ready.1 hr).1
  have hun' : listed.getD i false = false := by
    rw [Array.getD_eq_getD_getElem?, Array.getElem?_eq_getElem (by omega)] at hun ⊢
    exact hun
  have hmi : m ≤ i := by
    rcases h1 with h1 | ⟨o', ho', hm0, hd', hli⟩
    · omega
    · rcases Nat.lt_or_ge i m with h4 | h4
      · exfalso
        by_cases he : m - 1 = i
        · rw [he, hun'] at hli; simp at hli
        · have hlt : i < m - 1 := by omega
          rcases pair_spec hd hlt ho ho' with h5 | h5
          · have := closed_bef hc _ _ h5 hli
            rw [hun'] at this; simp at this
          · exact (Oper.apart_spec h5).2.2 t hd' hl
      · exact h4
  have hno : ∀ k o', m ≤ k → k < m + (i - m) → ops[k]? = some o' → o'.dst ≠ some t := fun k o' hk1 hk2 hk hdst => by
    have hlk := h2 k o' hk1 hk hdst
    rcases pair_spec hd (show k < i by omega) hk ho with h5 | h5
    · have := ready_bef hc hr h5
      rw [hlk] at this; simp at this
    · exact (Oper.apart_spec h5).1 t hdst hl
  have := still_T tr (m := m) (t := t) (i - m) (by omega) hno
  rw [show m + (i - m) = i by omega] at this
  rw [this]
  exact h3

theorem getD_list_set {listed : Array Bool} {i : Nat} (hi : i < listed.size) (j : Nat) : (listed.setIfInBounds i true).getD j false = if j = i then true else listed.getD j false := by
  by_cases h : j = i
  · subst h
    simp [Array.getD_eq_getD_getElem?, hi]
  · rw [if_neg h, getD_set_ne false (Ne.symm h)]

/-- The operation's own temporary, and the others. -/
theorem temp_next (tr : Trace P base N ops τ η) (hd : drawOk ops = true) {listed : Array Bool} (hsz : listed.size = ops.size) (hc : Closed ops listed) {i : Nat} {o : Oper} (ho : ops[i]? = some o) (hr : i ∈ Region.ready .any ops listed)
    {β β' : Map} (hsub : ∀ n c, β n = some c → β' n = some c) {a : Act} (hN : a.tmps.size = N) (hok : okOper N o = true) {v v' : Value} (hτ : τ (i + 1) = putT (τ i) o.dst v) (hv : Rel β' v v') {t : Nat} (htN : t < N)
    (ht : TempOk N ops τ listed β a.tmps t) : TempOk N ops τ (listed.setIfInBounds i true) β' (a.put o.dst v').tmps t := by
  have hi := (Array.getElem?_eq_some_iff.1 ho).1
  have hun := (mem_ready.1 hr).1
  have hun' : listed.getD i false = false := by
    rw [Array.getD_eq_getD_getElem?, Array.getElem?_eq_getElem (by omega)] at hun ⊢
    exact hun
  by_cases hdst : o.dst = some t
  · refine ⟨i + 1, by omega, .inr ⟨o, by simpa using ho, by omega, hdst, ?_⟩, fun j o' hj hoj hdj => ?_, ?_⟩
    · rw [getD_list_set (by omega)]; simp
    · rw [getD_list_set (by omega), if_neg (by omega)]
      cases hlj : listed.getD j false with
      | false => rfl
      | true =>
        rcases pair_spec hd (show i < j by omega) ho hoj with h5 | h5
        · have := closed_bef hc _ _ h5 hlj
          rw [hun'] at this; simp at this
        · exact absurd hdj ((Oper.apart_spec h5).2.1 t hdst)
    · rw [hτ, hdst, putT_eq]
      have : (a.put (some t) v').tmps.getD t undef = v' := by
        simp [Act.put, Array.getD_eq_getD_getElem?, hN, htN]
      rw [this]
      exact hv
  · obtain ⟨m, hm, h1, h2, h3⟩ := ht
    refine ⟨m, hm, ?_, fun j o' hj hoj hdj => ?_, ?_⟩
    · rcases h1 with h1 | ⟨o', ho', hm0, hd', hli⟩
      · exact .inl h1
      · exact .inr ⟨o', ho', hm0, hd', by rw [getD_list_set (by omega)]; split <;> simp [hli]⟩
    · rw [getD_list_set (by omega)]
      split
      · rename_i he
        subst he
        rw [ho] at hoj
        obtain rfl := Option.some.inj hoj
        exact absurd hdj hdst
      · exact h2 j o' hj hoj hdj
    · have : (a.put o.dst v').tmps.getD t undef = a.tmps.getD t undef := by
        cases hdo : o.dst with
        | none => rfl
        | some d =>
          have hne : d ≠ t := fun he => hdst (by rw [hdo, he])
          simp [Act.put, Array.getD_eq_getD_getElem?, Array.getElem?_setIfInBounds_ne hne]
      rw [this]
      exact h3.mono hsub
end
end Go.Proofs.YtkgdkommahgakaaDoor.Abs

/- The abstract machine: a region whose order is drawn: the text's order serves every order (the main proof). -/
namespace Go.Proofs.YtkgdkommahgakaaDoor.Abs
open Go Go.RowKit
set_option linter.unusedVariables false
set_option linter.unusedSimpArgs false

section
variable {P : Program} {base N : Nat} {ops : Array Oper} {τ : Nat → Tm} {η : Nat → Heap}

/-- Where a walk in some order stands. -/
structure Inv (P : Program) (base N : Nat) (ops : Array Oper) (τ : Nat → Tm) (η : Nat → Heap) (β0 : Map) (w0 : World) (d0 : List Deferred) (listed : Array Bool) (a : Act) (w : World) (β : Map) (l : Nat) : Prop where
  lsz : listed.size = ops.size
  closed : Closed ops listed
  tsz : a.tmps.size = N
  defers : a.defers = d0
  temps : ∀ t, t < N → TempOk N ops τ listed β a.tmps t
  le : l ≤ ops.size
  loud : l = ops.size ∨ (LoudAt P base ops τ η l ∧ listed.getD l false = false)
  before : ∀ i, i < ops.size → listed.getD i false = true → ¬ FreeAt P base ops τ η i → i < l
  calmed : ∀ i, i < l → listed.getD i false = false → ¬ FreeAt P base ops τ η i → ∀ j, i ≤ j → j < l → ¬ LoudAt P base ops τ η j
  sim : Sim base P.globals.size β (η l) w
  unborn : ∀ i, i < l → listed.getD i false = false → ∀ m, (η i).length ≤ m → m < (η (i + 1)).length → β m = none
  later : ∀ m, (η l).length ≤ m → m < (η ops.size).length → β m = none
  sub : ∀ n cb, β0 n = some cb → β n = some cb
  dom : ∀ m cb, β m = some cb → β0 m = some cb ∨ (β0 m = none ∧ (η 0).length ≤ m ∧ m < (η ops.size).length ∧ cb.own = true ∧ (w0.heap.size ≤ cb.blk ∨ ∃ k b ck, look (η 0) k = some b ∧ β0 k = some ck ∧ ck.own = true ∧ ck.blk = cb.blk))
  size : w0.heap.size ≤ w.heap.size
  os : w.os = w0.os
  tape : w.tape = w0.tape
  output : w.output = w0.output
  frame : ∀ k, k < w0.heap.size → (∀ n b cb, look (η 0) n = some b → β0 n = some cb → cb.own = true → cb.blk ≠ k) → w.heap[k]? = w0.heap[k]?
  dead : ∀ k, k < (η 0).length → look (η 0) k = none → look (η l) k = none

/-- A step of the walk, put behind what has been done. -/
theorem inv_chain (tr : Trace P base N ops τ η) {β0 β β' : Map} {w0 w w' : World} {σ σ' : Heap} (hf0 : Fresh β0 (η 0) (η ops.size)) (hl : (η 0).length ≤ σ.length) (hl2 : σ'.length ≤ (η ops.size).length)
    (dead : ∀ k, k < (η 0).length → look (η 0) k = none → look σ k = none)
    (dom : ∀ m cb, β m = some cb → β0 m = some cb ∨ (β0 m = none ∧ (η 0).length ≤ m ∧ m < (η ops.size).length ∧ cb.own = true ∧ (w0.heap.size ≤ cb.blk ∨ ∃ k b ck, look (η 0) k = some b ∧ β0 k = some ck ∧ ck.own = true ∧ ck.blk = cb.blk)))
    (size : w0.heap.size ≤ w.heap.size) (sub : ∀ n cb, β0 n = some cb → β n = some cb)
    (frame : ∀ k, k < w0.heap.size → (∀ n b cb, look (η 0) n = some b → β0 n = some cb → cb.own = true → cb.blk ≠ k) → w.heap[k]? = w0.heap[k]?)
    (st : Step β σ w β' σ' w') :
    (∀ m cb, β' m = some cb → β0 m = some cb ∨ (β0 m = none ∧ (η 0).length ≤ m ∧ m < (η ops.size).length ∧ cb.own = true ∧ (w0.heap.size ≤ cb.blk ∨ ∃ k b ck, look (η 0) k = some b ∧ β0 k = some ck ∧ ck.own = true ∧ ck.blk = cb.blk))) ∧
    (∀ k, k < w0.heap.size → (∀ n b cb, look (η 0) n = some b → β0 n = some cb → cb.own = true → cb.blk ≠ k) → w'.heap[k]? = w0.heap[k]?) := by
  -- a name of the beginning that lives now lived then
  have alive : ∀ k b ck, look σ k = some b → β0 k = some ck → σ.length ≤ (η ops.size).length → ∃ b0, look (η 0) k = some b0 := fun k b ck hk hck hle => by
    have hkl := look_lt hk
    have hk0 : k < (η 0).length := by
      rcases Nat.lt_or_ge k (η 0).length with h | h
      · exact h
      · have := hf0 k h (Nat.lt_of_lt_of_le hkl hle)
        rw [hck] at this; simp at this
    cases h0 : look (η 0) k with
    | none => rw [dead k hk0 h0] at hk; simp at hk
    | some b0 => exact ⟨b0, rfl⟩
  have hle : σ.length ≤ (η ops.size).length := Nat.le_trans st.len hl2
  constructor
  · intro m cb hm
    rcases st.dom m cb hm with h | ⟨hn, h1, h2, hco, h3⟩
    · exact dom m cb h
    · refine .inr ⟨?_, by omega, by omega, hco, ?_⟩
      · cases h : β0 m with
        | none => rfl
        | some c => rw [sub m c h] at hn; simp at hn
      · rcases h3 with h3 | ⟨k, b, ck, hk, hck, hcko, hckb⟩
        · exact .inl (by omega)
        · rcases dom k ck hck with h4 | ⟨_, _, _, _, h5⟩
          · obtain ⟨b0, hb0⟩ := alive k b ck hk h4 hle
            exact .inr ⟨k, b0, ck, hb0, h4, hcko, hckb⟩
          · rw [← hckb]; exact h5
  · intro k hk h
    rw [← frame k hk h]
    refine st.frame k (by omega) fun n b cb hn hcb hco => ?_
    rcases dom n cb hcb with h4 | ⟨_, _, _, _, h5⟩
    · obtain ⟨b0, hb0⟩ := alive n b cb hn h4 hle
      exact h n b0 cb hb0 h4 hco
    · rcases h5 with h5 | ⟨k', b', ck, hk', hck, hcko, hckb⟩
      · omega
      · rw [← hckb]; exact h k' b' ck hk' hck hcko

theorem closed_next {listed : Array Bool} (hsz : listed.size = ops.size) (hc : Closed ops listed) {i : Nat} (hr : i ∈ Region.ready .any ops listed) : Closed ops (listed.setIfInBounds i true) := by
  obtain ⟨hun, o, ho, hall⟩ := mem_ready.1 hr
  have hi := (Array.getElem?_eq_some_iff.1 ho).1
  intro j oj hoj hj e he hb
  rw [getD_list_set (by omega)] at hj ⊢
  split
  · rfl
  · split at hj
    · rename_i h1
      subst h1
      rw [ho] at hoj
      obtain rfl := Option.some.inj hoj
      exact hall e he hb
    · exact hc j oj hoj hj e he hb

theorem wanted_eq {β : Map} {T : Tm} {a : Act} {o : Oper} {b : Bool} (hN : a.tmps.size = N) (hops : ops.all (okOper N) = true) (hw : awanted ops T o = some b) (hT : ∀ t ∈ o.looksAt ops, Rel β (T t) (a.tmps.getD t undef)) :
    Region.wanted o (yielded ops a.tmps) = b := by
  unfold awanted at hw
  unfold Region.wanted
  split at hw
  · rename_i hg
    rw [hg]
    exact Option.some.inj hw
  · rename_i j want hg
    rw [hg]
    simp only
    unfold yielded
    cases hd : (ops[j]?).bind (·.dst) with
    | none =>
      rw [hd] at hw
      obtain rfl := Option.some.inj hw
      rfl
    | some d =>
      rw [hd] at hw
      simp only at hw
      have hmem : d ∈ o.looksAt ops := by
        unfold Oper.looksAt
        simp only [hg, hd]
        simp
      have hr := hT d hmem
      obtain ⟨oj, hoj, hdj⟩ := Option.bind_eq_some_iff.1 hd
      have hdN : d < N := by
        have := Array.all_eq_true_iff_forall_mem.1 hops oj (Array.mem_of_getElem? hoj)
        simp only [okOper, hdj, Bool.and_eq_true, decide_eq_true_eq] at this
        exact this.2
      have hget : a.tmps[d]? = some (a.tmps.getD d undef) := by
        rw [Array.getD_eq_getD_getElem?, Array.getElem?_eq_getElem (show d < a.tmps.size by rw [hN]; exact hdN)]
        rfl
      simp only [Option.bind_some, hget]
      split at hw
      · rename_i b' hb'
        rw [hb'] at hr
        rw [hr.bool_inv]
        obtain rfl := Option.some.inj hw
        cases b' <;> cases want <;> rfl
      · rename_i vs hvs
        split at hw
        · rename_i hz
          obtain rfl := Option.some.inj hw
          rw [hvs] at hr
          have : vs = #[] := Array.eq_empty_of_size_eq_zero hz
          subst this
          rw [hr.undef_inv]
          rfl
        · simp at hw
      · simp at hw

theorem aev_rel {β : Map} {G : Nat} {T : Tm} {a : Act} {x : Operand} (hG : G = P.globals.size) (hglob : ∀ g, g < G → ∃ cb, β g = some cb ∧ cb.blk = g ∧ cb.off = 0) (hT : ∀ t, x = .tmp t → Rel β (T t) (a.tmps.getD t undef)) : Rel β (aev P T x) (a.eval x) := by
  cases x with
  | tmp t => exact hT t rfl
  | const v =>
    simp only [aev, Act.eval]
    split
    · rename_i h; exact .scal v h
    · exact .any v
  | global g =>
    simp only [aev, Act.eval]
    split
    · rename_i h
      obtain ⟨cb, h1, h2, h3⟩ := hglob g (by omega)
      have := Rel.ptr (β := β) g 0 cb h1
      rw [h2, h3] at this
      exact this
    · exact .any _
  | func f => exact .func _ _ _ _ _ .nil .nil

theorem count_set : ∀ (l : List Bool) (i : Nat), l[i]? = some false → (l.set i true).count false + 1 = l.count false
  | [], i, h => by simp at h
  | b :: l, 0, h => by
    simp only [List.getElem?_cons_zero, Option.some.injEq] at h
    subst h
    simp
  | b :: l, i + 1, h => by
    simp only [List.getElem?_cons_succ] at h
    have := count_set l i h
    rw [List.set_cons_succ, List.count_cons, List.count_cons]
    omega
theorem count_zero {listed : Array Bool} (h : listed.toList.count false = 0) (i : Nat) (hi : i < listed.size) : listed.getD i false = true := by
  have h1 := List.count_eq_zero.1 h
  rw [Array.getD_eq_getD_getElem?, Array.getElem?_eq_getElem hi]
  simp only [Option.getD_some]
  cases hb : listed[i] with
  | true => rfl
  | false => exact absurd (by rw [← hb]; simp) h1

/-- Something is ready, as long as anything is left. -/
theorem ready_some (hd : drawOk ops = true) {listed : Array Bool} (hsz : listed.size = ops.size) (h : Region.ready .any ops listed = []) : ∀ i, i < ops.size → listed.getD i false = true := by
  intro i
  induction i using Nat.strongRecOn with
  | _ i ih =>
    intro hi
    cases hl : listed.getD i false with
    | true => rfl
    | false =>
      exfalso
      obtain ⟨o, ho⟩ : ∃ o, ops[i]? = some o := ⟨_, Array.getElem?_eq_getElem hi⟩
      have hr : i ∈ Region.ready .any ops listed := by
        rw [mem_ready]
        refine ⟨?_, o, ho, fun e he hb => ih e.on ?_ ?_⟩
        · rw [Array.getD_eq_getD_getElem?, Array.getElem?_eq_getElem (by omega)] at hl ⊢
          exact hl
        all_goals
          have he' : e.on < i := by
            simp only [drawOk, Bool.and_eq_true] at hd
            have h1 := hd.1.2
            simp only [edgesOk, List.all_eq_true, List.mem_range] at h1
            have h2 := h1 i hi
            simp only [ho] at h2
            have h3 := Array.all_eq_true_iff_forall_mem.1 h2 e he
            simp only [hb, Bool.not_true, Bool.false_or, decide_eq_true_eq] at h3
            exact h3
        · exact he'
        · omega
      rw [h] at hr
      cases hr

/-- At the end all has come up, and the world is as the last heap says. -/
theorem inv_end {β0 β : Map} {w0 w : World} {d0 : List Deferred} {listed : Array Bool} {a : Act} {l : Nat} (tr : Trace P base N ops τ η) (hf0 : Fresh β0 (η 0) (η ops.size)) (inv : Inv P base N ops τ η β0 w0 d0 listed a w β l) (hall : ∀ i, i < ops.size → listed.getD i false = true) :
    RelT β N (τ ops.size) a.tmps ∧ a.defers = d0 ∧ Sim base P.globals.size β (η ops.size) w ∧ Step β0 (η 0) w0 β (η ops.size) w := by
  have hl : l = ops.size := by
    rcases inv.loud with h | ⟨h, h2⟩
    · exact h
    · rw [hall l h.1] at h2; simp at h2
  subst hl
  refine ⟨⟨inv.tsz, fun t ht => ?_⟩, inv.defers, inv.sim, ⟨len_le tr (Nat.zero_le _) (Nat.le_refl _), inv.dead, hf0, inv.sub, ?_, inv.size, inv.os, inv.tape, inv.output, inv.frame⟩⟩
  · obtain ⟨m, hm, h1, h2, h3⟩ := inv.temps t ht
    have hno : ∀ k o', m ≤ k → k < m + (ops.size - m) → ops[k]? = some o' → o'.dst ≠ some t := fun k o' hk1 hk2 hk hdst => by
      have h4 := h2 k o' hk1 hk hdst
      rw [hall k (by omega)] at h4; simp at h4
    have := still_T tr (m := m) (t := t) (ops.size - m) (by omega) hno
    rw [show m + (ops.size - m) = ops.size by omega] at this
    rw [this]
    exact h3
  · intro n cb h
    exact inv.dom n cb h

theorem prefix_len {σ σ' : Heap} (h : σ <+: σ') : σ.length ≤ σ'.length := h.length_le

/-- **One operation more.** -/
theorem inv_step (tr : Trace P base N ops τ η) (hd : drawOk ops = true) (hops : ops.all (okOper N) = true) {β0 : Map} {w0 : World} {d0 : List Deferred} (hf0 : Fresh β0 (η 0) (η ops.size)) {listed : Array Bool} {a : Act} {w : World} {β : Map} {l : Nat}
    (inv : Inv P base N ops τ η β0 w0 d0 listed a w β l) {i : Nat} (hr : i ∈ Region.ready .any ops listed) {Q : Exit → Act → World → Prop} {K : Act → World → Prop}
    (hK : ∀ a' w' β' l', Inv P base N ops τ η β0 w0 d0 (listed.setIfInBounds i true) a' w' β' l' → K a' w') : wpOp P ops Q i K a w := by
  obtain ⟨hun, o, ho, hall⟩ := mem_ready.1 hr
  have hi := (Array.getElem?_eq_some_iff.1 ho).1
  have hun' : listed.getD i false = false := by
    rw [Array.getD_eq_getD_getElem?, Array.getElem?_eq_getElem (by rw [inv.lsz]; exact hi)] at hun ⊢
    exact hun
  have hok : okOper N o = true := Array.all_eq_true_iff_forall_mem.1 hops o (Array.mem_of_getElem? ho)
  have hlsz := inv.lsz
  have tmpN : ∀ t, Operand.tmp t ∈ o.op.operands.toList → t < N := fun t ht => by
    simp only [okOper, Bool.and_eq_true] at hok
    have := Array.all_eq_true_iff_forall_mem.1 hok.1 _ (by simpa using ht)
    simpa [okOpnd] using this
  have looksN : ∀ t ∈ o.looksAt ops, t < N := fun t ht => by
    unfold Oper.looksAt at ht
    rcases List.mem_append.1 ht with ht | ht
    · obtain ⟨x, hx, hxt⟩ := List.mem_filterMap.1 ht
      cases x <;> simp at hxt
      subst hxt
      exact tmpN _ hx
    · cases hg : o.guard with
      | none => rw [hg] at ht; simp at ht
      | some g =>
        rw [hg] at ht
        simp only at ht
        cases hgd : (ops[g.1]?).bind (·.dst) with
        | none => rw [hgd] at ht; simp at ht
        | some d =>
          rw [hgd] at ht
          simp only [Option.toList_some, List.mem_singleton] at ht
          subst ht
          obtain ⟨oj, hoj, hdj⟩ := Option.bind_eq_some_iff.1 hgd
          have := Array.all_eq_true_iff_forall_mem.1 hops oj (Array.mem_of_getElem? hoj)
          simp only [okOper, hdj, Bool.and_eq_true, decide_eq_true_eq] at this
          exact this.2
  have hT : ∀ t ∈ o.looksAt ops, Rel β (τ i t) (a.tmps.getD t undef) := fun t ht => temp_at tr hd hlsz inv.closed ho hr (inv.temps t (looksN t ht)) ht
  have hopd : ∀ x ∈ o.op.operands.toList, Rel β (aev P (τ i) x) (a.eval x) := fun x hx => aev_rel rfl inv.sim.glob fun t ht => hT t (by
    unfold Oper.looksAt
    refine List.mem_append_left _ (List.mem_filterMap.2 ⟨x, hx, ?_⟩)
    rw [ht])
  have hcl := closed_next hlsz inv.closed hr
  -- what doesn't hang on the operation's kind
  have putsz : ∀ v', (a.put o.dst v').tmps.size = N := fun v' => by
    cases hdo : o.dst with
    | none => exact inv.tsz
    | some d => simp [Act.put, inv.tsz]
  have putdef : ∀ v', (a.put o.dst v').defers = d0 := fun v' => by
    cases hdo : o.dst with
    | none => exact inv.defers
    | some d => exact inv.defers
  have nextT : ∀ {β' : Map} {v v' : Value}, (∀ n c, β n = some c → β' n = some c) → τ (i + 1) = putT (τ i) o.dst v → Rel β' v v' → ∀ t, t < N → TempOk N ops τ (listed.setIfInBounds i true) β' (a.put o.dst v').tmps t :=
    fun hsub hτ hv t ht => temp_next tr hd hlsz inv.closed ho hr hsub inv.tsz hok hτ hv ht (inv.temps t ht)
  have lset : ∀ j, (listed.setIfInBounds i true).getD j false = if j = i then true else listed.getD j false := getD_list_set (by omega)
  have lset_un : ∀ j, (listed.setIfInBounds i true).getD j false = false → j ≠ i ∧ listed.getD j false = false := fun j h => by
    rw [lset] at h
    split at h
    · simp at h
    · rename_i hj; exact ⟨hj, h⟩
  unfold wpOp
  simp only [ho]
  rcases tr.step i o ho with ⟨hw, hτ, hη⟩ | ⟨hw, v, hτ, hsound, hlen, hkind⟩
  · -- it is not carried out
    rw [wanted_eq inv.tsz hops hw hT]
    simp only [Bool.false_eq_true, if_false]
    have hfree : FreeAt P base ops τ η i := ⟨o, ho, .inl hw⟩
    have hnl : l ≠ i := fun h => by
      rcases inv.loud with h2 | ⟨h2, _⟩
      · omega
      · exact h2.2.1 (h ▸ hfree)
    refine hK _ _ β l ⟨by simp [hlsz], hcl, putsz _, putdef _, nextT (fun _ _ h => h) hτ (rel_undef β), inv.le, ?_, ?_, ?_, inv.sim, ?_, inv.later, inv.sub, inv.dom, inv.size, inv.os, inv.tape, inv.output, inv.frame, inv.dead⟩
    · rcases inv.loud with h | ⟨h, h2⟩
      · exact .inl h
      · exact .inr ⟨h, by rw [lset, if_neg hnl]; exact h2⟩
    · intro j hj hlj hnf
      rw [lset] at hlj
      split at hlj
      · rename_i he; exact absurd (he ▸ hfree) hnf
      · exact inv.before j hj hlj hnf
    · exact fun j hj hlj hnf => inv.calmed j hj (lset_un j hlj).2 hnf
    · exact fun j hj hlj => inv.unborn j hj (lset_un j hlj).2
  · rw [wanted_eq inv.tsz hops hw hT]
    simp only [if_true]
    left
    have freeK : ∀ v, FreeAt P base ops τ η i → τ (i + 1) = putT (τ i) o.dst v → OpSound P base o (τ i) (η l) v (η l) → o.wp P a w K Q := by
      intro v hfree hτ hany
      have hnl : l ≠ i := fun h => by
        rcases inv.loud with h2 | ⟨h2, _⟩
        · omega
        · exact h2.2.1 (h ▸ hfree)
      refine hany β a w hopd inv.sim (fun n h1 h2 => by omega) K Q fun v' w' β' hv hs' st => ?_
      obtain ⟨hdom, hframe⟩ := inv_chain tr hf0 (len_le tr (Nat.zero_le _) inv.le) (len_le tr inv.le (Nat.le_refl _)) inv.dead inv.dom inv.size inv.sub inv.frame st
      have hβ : ∀ m, β m = none → β' m = none := fun m hm => by
        cases h : β' m with
        | none => rfl
        | some cb =>
          rcases st.dom m cb h with h2 | ⟨_, h2, h3, _⟩
          · rw [hm] at h2; simp at h2
          · omega
      refine hK _ _ β' l ⟨by simp [hlsz], hcl, putsz _, putdef _, nextT st.sub hτ hv, inv.le, ?_, ?_, ?_, hs', ?_, fun m h1 h2 => hβ m (inv.later m h1 h2), fun n cb h => st.sub n cb (inv.sub n cb h), hdom, Nat.le_trans inv.size st.size, st.os.trans inv.os, st.tape.trans inv.tape, st.output.trans inv.output, hframe, inv.dead⟩
      · rcases inv.loud with h | ⟨h, h2⟩
        · exact .inl h
        · exact .inr ⟨h, by rw [lset, if_neg hnl]; exact h2⟩
      · intro j hj hlj hnf
        rw [lset] at hlj
        split at hlj
        · rename_i he; exact absurd (he ▸ hfree) hnf
        · exact inv.before j hj hlj hnf
      · exact fun j hj hlj hnf => inv.calmed j hj (lset_un j hlj).2 hnf
      · exact fun j hj hlj m h1 h2 => hβ m (inv.unborn j hj (lset_un j hlj).2 m h1 h2)
    rcases hkind with ⟨hhf, hη, hany⟩ | ⟨hhf, hkind⟩
    · -- it looks at no memory
      exact freeK v ⟨o, ho, .inr (.inl hhf)⟩ hτ (hany (η l))
    by_cases hfr : FreeAt P base ops τ η i
    · -- it looks at what nobody touches
      obtain ⟨o', ho', h⟩ := id hfr
      rw [ho] at ho'
      obtain rfl := Option.some.inj ho'
      rcases h with h | h | ⟨h1, h2, v2, h3, h4⟩
      · rw [hw] at h; simp at h
      · rw [hhf] at h; simp at h
      · refine freeK v2 hfr h3 (h4 l ?_ inv.le)
        rcases Nat.lt_or_ge l i with h | h
        · exfalso
          rcases inv.loud with h5 | ⟨h5, _⟩
          · omega
          · exact h5.2.2 (h2 l h)
        · exact h
    · have hnf := hfr
      -- the next loud one lets nothing by that looks at memory
      have hil : i ≤ l := by
        rcases Nat.lt_or_ge l i with h | h
        · exfalso
          rcases inv.loud with h2 | ⟨h2, h3⟩
          · omega
          · rcases loud_spec (loud_ok tr h2) ho (by omega) hnf with ⟨h4, _⟩ | ⟨_, h5⟩
            · omega
            · have := ready_bef inv.closed hr h5
              rw [h3] at this; simp at this
        · exact h
      by_cases hpre : η i <+: η (i + 1)
      · -- it only makes memory
        have hloud : ¬ LoudAt P base ops τ η i := fun h => h.2.2 hpre
        have hil2 : i < l := by
          rcases Nat.lt_or_ge i l with h | h
          · exact h
          · have : l = i := by omega
            rcases inv.loud with h2 | ⟨h2, _⟩
            · omega
            · exact absurd (this ▸ h2) hloud
        have hcalm := inv.calmed i hil2 hun' hnf
        have hp1 : η (i + 1) <+: η l := by
          have := calm tr (j := i + 1) (l - (i + 1)) (by have := inv.le; omega) fun j h1 h2 => hcalm j (by omega) (by omega)
          rwa [show i + 1 + (l - (i + 1)) = l by omega] at this
        have hs0 := inv.sim.shorter (hpre.trans hp1)
        refine hsound β a w hopd hs0 (fun m h1 h2 => inv.unborn i hil2 hun' m h1 h2) K Q fun v' w' β' hv hs' st => ?_
        have hs2 := sim_quiet hpre hp1 inv.sim hs' st
        have hdead : ∀ k, k < (η 0).length → look (η 0) k = none → look (η i) k = none := fun k hk h0 => by
          cases h : look (η i) k with
          | none => rfl
          | some b =>
            have := look_prefix (hpre.trans hp1) h
            rw [inv.dead k hk h0] at this; simp at this
        obtain ⟨hdom, hframe⟩ := inv_chain tr hf0 (len_le tr (Nat.zero_le _) (by omega)) (len_le tr (by omega) (Nat.le_refl _)) hdead inv.dom inv.size inv.sub inv.frame st
        have hβ : ∀ m, β m = none → (m < (η i).length ∨ (η (i + 1)).length ≤ m) → β' m = none := fun m hm hout => by
          cases h : β' m with
          | none => rfl
          | some cb =>
            rcases st.dom m cb h with h2 | ⟨_, h2, h3, _⟩
            · rw [hm] at h2; simp at h2
            · omega
        refine hK _ _ β' l ⟨by simp [hlsz], hcl, putsz _, putdef _, nextT st.sub hτ hv, inv.le, ?_, ?_, ?_, hs2, ?_, fun m h1 h2 => hβ m (inv.later m h1 h2) (.inr (Nat.le_trans (prefix_len hp1) h1)), fun n cb h => st.sub n cb (inv.sub n cb h), hdom, Nat.le_trans inv.size st.size, st.os.trans inv.os, st.tape.trans inv.tape, st.output.trans inv.output, hframe, inv.dead⟩
        · rcases inv.loud with h | ⟨h, h2⟩
          · exact .inl h
          · exact .inr ⟨h, by rw [lset, if_neg (by omega)]; exact h2⟩
        · intro j hj hlj hnfj
          rw [lset] at hlj
          split at hlj
          · rename_i he; omega
          · exact inv.before j hj hlj hnfj
        · exact fun j hj hlj hnfj => inv.calmed j hj (lset_un j hlj).2 hnfj
        · intro j hj hlj m h1 h2
          obtain ⟨hji, hlj⟩ := lset_un j hlj
          refine hβ m (inv.unborn j hj hlj m h1 h2) ?_
          have hle := inv.le
          rcases Nat.lt_or_ge j i with h3 | h3
          · have := len_le tr (show j + 1 ≤ i by omega) (by omega)
            omega
          · have := len_le tr (show i + 1 ≤ j by omega) (by omega)
            omega
      · -- it turns memory: it is the next loud one
        have hloud : LoudAt P base ops τ η i := ⟨hi, hnf, hpre⟩
        have hli : l = i := by
          rcases Nat.lt_or_ge i l with h | h
          · exact absurd hloud (inv.calmed i h hun' hnf i (Nat.le_refl _) h)
          · omega
        subst hli
        have hfresh : Fresh β (η l) (η (l + 1)) := fun m h1 h2 => inv.later m h1 (Nat.lt_of_lt_of_le h2 (len_le tr (by omega) (Nat.le_refl _)))
        refine hsound β a w hopd inv.sim hfresh K Q fun v' w' β' hv hs' st => ?_
        obtain ⟨hdom, hframe⟩ := inv_chain tr hf0 (len_le tr (Nat.zero_le _) inv.le) (len_le tr (by omega) (Nat.le_refl _)) inv.dead inv.dom inv.size inv.sub inv.frame st
        obtain ⟨l', k1, k2, k3, k4⟩ := next_loud (P := P) (base := base) (τ := τ) (η := η) (ops := ops) (ops.size - (l + 1)) (l + 1) (by omega)
        have hp : η (l + 1) <+: η l' := by
          have := calm tr (j := l + 1) (l' - (l + 1)) (by omega) fun j h1 h2 => k3 j h1 (by omega)
          rwa [show l + 1 + (l' - (l + 1)) = l' by omega] at this
        have hβ : ∀ m, (η (l + 1)).length ≤ m → m < (η ops.size).length → β' m = none := fun m h1 h2 => by
          cases h : β' m with
          | none => rfl
          | some cb =>
            rcases st.dom m cb h with h3 | ⟨_, h3, h4, _⟩
            · rw [inv.later m (Nat.le_trans st.len h1) h2] at h3; simp at h3
            · omega
        have hs2 : Sim base P.globals.size β' (η l') w' := sim_beyond hp hs' fun m h1 h2 => hβ m h1 (Nat.lt_of_lt_of_le h2 (len_le tr k2 (Nat.le_refl _)))
        -- all that looks at memory and stands before it has come up
        have hbefore : ∀ j, j < l → ¬ FreeAt P base ops τ η j → listed.getD j false = true := fun j hj hnfj => by
          obtain ⟨oj, hoj⟩ : ∃ oj, ops[j]? = some oj := ⟨_, Array.getElem?_eq_getElem (by omega)⟩
          rcases loud_spec (loud_ok tr hloud) hoj (by omega) hnfj with ⟨_, h5⟩ | ⟨h5, _⟩
          · exact ready_bef inv.closed hr h5
          · omega
        refine hK _ _ β' l' ⟨by simp [hlsz], hcl, putsz _, putdef _, nextT st.sub hτ hv, k2, ?_, ?_, ?_, hs2, ?_, fun m h1 h2 => hβ m (Nat.le_trans (prefix_len hp) h1) h2, fun n cb h => st.sub n cb (inv.sub n cb h), hdom, Nat.le_trans inv.size st.size, st.os.trans inv.os, st.tape.trans inv.tape, st.output.trans inv.output, hframe, ?_⟩
        · rcases k4 with h | h
          · exact .inl h
          · refine .inr ⟨h, ?_⟩
            rw [lset, if_neg (by omega)]
            cases hl' : listed.getD l' false with
            | false => rfl
            | true =>
              have := inv.before l' h.1 hl' h.2.1
              omega
        · intro j hj hlj hnfj
          rw [lset] at hlj
          split at hlj
          · omega
          · have := inv.before j hj hlj hnfj
            omega
        · intro j hj hlj hnfj i' h1 h2
          obtain ⟨hjl, hlj⟩ := lset_un j hlj
          have : l < j := by
            rcases Nat.lt_or_ge j l with h3 | h3
            · rw [hbefore j h3 hnfj] at hlj; simp at hlj
            · omega
          exact k3 i' (by omega) h2
        · intro j hj hlj m h1 h2
          obtain ⟨hjl, hlj⟩ := lset_un j hlj
          rcases Nat.lt_or_ge j l with h3 | h3
          · by_cases hfj : FreeAt P base ops τ η j
            · rw [free_same tr hfj] at h2; omega
            · rw [hbefore j h3 hfj] at hlj; simp at hlj
          · refine hβ m ?_ (Nat.lt_of_lt_of_le h2 (len_le tr (by omega) (Nat.le_refl _)))
            have := len_le tr (show l + 1 ≤ j by omega) (by omega)
            omega
        · intro k hk h0
          have h1 := st.dead k (Nat.lt_of_lt_of_le hk (len_le tr (Nat.zero_le _) (by omega))) (inv.dead k hk h0)
          have hkl : k < (η (l + 1)).length := Nat.lt_of_lt_of_le hk (len_le tr (Nat.zero_le _) (by omega))
          rw [look_prefix' hp hkl]
          exact h1

/-- **Whatever order comes up, the text's order tells what a region leaves.** -/
theorem draw_sound (tr : Trace P base N ops τ η) (hd : drawOk ops = true) (hops : ops.all (okOper N) = true) (hm : P.follows .mixedOrders = true) {β0 : Map} {a0 : Act} {w0 : World} (hT : RelT β0 N (τ 0) a0.tmps) (hs : Sim base P.globals.size β0 (η 0) w0) (hf0 : Fresh β0 (η 0) (η ops.size))
    {id : Nat} {Q : Exit → Act → World → Prop} (hQ : ∀ a w β, RelT β N (τ ops.size) a.tmps → a.defers = a0.defers → Sim base P.globals.size β (η ops.size) w → Step β0 (η 0) w0 β (η ops.size) w → Q .normal a w) : (Code.region id ops true).wp P Q a0 w0 := by
  refine wp_region_any hm ?_
  have key : ∀ (fuel : Nat) (listed : Array Bool) (a : Act) (w : World) (β : Map) (l : Nat), listed.toList.count false = fuel → Inv P base N ops τ η β0 w0 a0.defers listed a w β l → wpAny P .any ops Q fuel listed a w := by
    intro fuel
    induction fuel with
    | zero =>
      intro listed a w β l hc inv
      have hall := fun i hi => count_zero hc i (by rw [inv.lsz]; exact hi)
      refine ⟨?_, ?_⟩
      · cases hrd : Region.ready .any ops listed with
        | nil => rfl
        | cons i rest =>
          exfalso
          have hr : i ∈ Region.ready .any ops listed := by rw [hrd]; simp
          obtain ⟨hun, o, ho, _⟩ := mem_ready.1 hr
          have hi := (Array.getElem?_eq_some_iff.1 ho).1
          have h1 := hall i hi
          rw [Array.getD_eq_getD_getElem?, Array.getElem?_eq_getElem (by rw [inv.lsz]; exact hi)] at hun h1
          simp only [Option.getD_some] at hun h1
          rw [hun] at h1; simp at h1
      · obtain ⟨h1, h2, h3, h4⟩ := inv_end tr hf0 inv hall
        exact hQ a w β h1 h2 h3 h4
    | succ fuel ih =>
      intro listed a w β l hc inv
      refine ⟨fun hrd => ?_, fun i hr => ?_⟩
      · obtain ⟨h1, h2, h3, h4⟩ := inv_end tr hf0 inv (ready_some hd inv.lsz hrd)
        exact hQ a w β h1 h2 h3 h4
      · refine inv_step tr hd hops hf0 inv hr fun a' w' β' l' inv' => ih _ a' w' β' l' ?_ inv'
        obtain ⟨hun, o, ho, _⟩ := mem_ready.1 hr
        have hi := (Array.getElem?_eq_some_iff.1 ho).1
        have h1 : listed.toList[i]? = some false := by
          rw [Array.getElem?_toList]
          rw [Array.getD_eq_getD_getElem?, Array.getElem?_eq_getElem (by rw [inv.lsz]; exact hi)] at hun
          rw [Array.getElem?_eq_getElem (by rw [inv.lsz]; exact hi)]
          exact congrArg some hun
        have := count_set _ _ h1
        rw [Array.toList_setIfInBounds]
        omega
  obtain ⟨l, k1, k2, k3, k4⟩ := next_loud (P := P) (base := base) (τ := τ) (η := η) (ops := ops) ops.size 0 (by omega)
  have hrep : ∀ i, (Array.replicate ops.size false).getD i false = false := fun i => by
    rw [Array.getD_eq_getD_getElem?]
    by_cases h : i < ops.size
    · simp [h]
    · rw [Array.getElem?_eq_none (by simp; omega)]; rfl
  have hp : η 0 <+: η l := by
    have := calm tr (j := 0) l (by omega) fun j h1 h2 => k3 j h1 (by omega)
    rwa [Nat.zero_add] at this
  have hs1 : Sim base P.globals.size β0 (η 0) { w0 with drawn := w0.drawn + 1 } := Sim.of_heap (w := w0) rfl hs
  refine key ops.size _ a0 _ β0 l (by simp [List.count_replicate]) ⟨by simp, fun j o _ hj => by rw [hrep] at hj; simp at hj, hT.1, rfl, fun t ht => ⟨0, Nat.zero_le _, .inl rfl, fun j o _ _ _ => hrep j, hT.2 t ht⟩, k2, ?_, fun i hi hl => by rw [hrep] at hl; simp at hl, fun i hi _ _ j h1 h2 => k3 j (by omega) h2,
    sim_beyond hp hs1 fun m h1 h2 => hf0 m h1 (Nat.lt_of_lt_of_le h2 (len_le tr k2 (Nat.le_refl _))), fun i hi _ m h1 h2 => hf0 m (Nat.le_trans (len_le tr (Nat.zero_le _) (by omega)) h1) (Nat.lt_of_lt_of_le h2 (len_le tr (by omega) (Nat.le_refl _))),
    fun m h1 h2 => hf0 m (Nat.le_trans (len_le tr (Nat.zero_le _) k2) h1) h2, fun _ _ h => h, fun _ _ h => .inl h, Nat.le_refl _, rfl, rfl, rfl, fun _ _ _ => rfl, fun k hk h0 => by rw [look_prefix' hp hk]; exact h0⟩
  rcases k4 with h | h
  · exact .inl h
  · exact .inr ⟨h, hrep l⟩
end
end Go.Proofs.YtkgdkommahgakaaDoor.Abs

/- The abstract machine: **a run there tells what the machine's own call does.** -/
namespace Go.Proofs.YtkgdkommahgakaaDoor.Abs
open Go Go.RowKit
set_option linter.unusedVariables false
set_option linter.unusedSimpArgs false

/-- What stands in a result. -/
def resSem (tmps : Array Value) (r : ResultVar) : Sem Value := match r with | .tmp t => pure (tmps.getD t undef) | .cell a t => do loadVar t (← asAddr (tmps.getD a undef))
def CallSound (P : Program) (base : Nat) (f : FuncId) (args : List Value) (σ : Heap) (v : Value) (σ' : Heap) : Prop :=
  ∀ (β : Map) (w : World) (cargs : Array Value), RelL β args cargs.toList → Sim base P.globals.size β σ w → Fresh β σ σ' →
    Calls P f cargs w fun e w' => ∃ β' v', e = .returned v' ∧ Rel β' v v' ∧ Sim base P.globals.size β' σ' w' ∧ Step β σ w β' σ' w'
def CodeGoal (P : Program) (base N : Nat) (T : Tm) (σ : Heap) (e : AExit) (T' : Tm) (σ' : Heap) (goal : (Exit → Act → World → Prop) → Act → World → Prop) : Prop :=
  ∀ (β : Map) (a : Act) (w : World), RelT β N T a.tmps → Sim base P.globals.size β σ w → Fresh β σ σ' → ∀ (Q : Exit → Act → World → Prop),
    (∀ a' w' β', RelT β' N T' a'.tmps → a'.defers = a.defers → Sim base P.globals.size β' σ' w' → Step β σ w β' σ' w' → Q e.conc a' w') → goal Q a w
def StepAt (P : Program) (base : Nat) (ops : Array Oper) (i : Nat) (o : Oper) (T : Tm) (σ : Heap) (T' : Tm) (σ' : Heap) : Prop :=
  (awanted ops T o = some false ∧ T' = putT T o.dst undef ∧ σ' = σ) ∨
    (awanted ops T o = some true ∧ ∃ v, T' = putT T o.dst v ∧ OpSound P base o T σ v σ' ∧ σ.length ≤ σ'.length ∧ ((∃ c, o.op = .call c) ∨ aop P (aev P T) σ o.op = some (v, σ')) ∧
      ((heapFree o.op = true ∧ σ' = σ ∧ ∀ σ1, OpSound P base o T σ1 v σ1) ∨ (heapFree o.op = false ∧ (σ <+: σ' ∨ loudOk ops i = true ∨ Late ops T))))
def Sound (P : Program) (base : Nat) : Job → Heap → Out → Heap → Prop
  | .code N c T, σ, .ex e T', σ' => (okCode N c = true → CodeGoal P base N T σ e T' σ' (Code.wp P c)) ∧
      ∀ c', c = .loop c' → okCode N c' = true → ∃ n, CodeGoal P base N T σ e T' σ' fun Q => Code.rounds P c' Q n
  | .ops N ops k l T, σ, .ex _ T', σ' => l = ops.toList.drop k → ops.all (okOper N) = true → CodeGoal P base N T σ .normal T' σ' fun Q => wpOps P ops Q (List.range' k l.length)
  | .draw N ops k l T, σ, .ex _ T', σ' => l = ops.toList.drop k → ∃ (τ : Nat → Tm) (η : Nat → Heap), τ k = T ∧ η k = σ ∧ τ (k + l.length) = T' ∧ η (k + l.length) = σ' ∧ ∀ i o, k ≤ i → ops[i]? = some o → StepAt P base ops i o (τ i) (η i) (τ (i + 1)) (η (i + 1))
  | .call f args, σ, .val v, σ' => CallSound P base f args σ v σ'
  | _, _, _, _ => True

section
variable {P : Program} {base : Nat}

theorem fresh_left {β : Map} {σ σ1 σ2 : Heap} (h : Fresh β σ σ2) (h2 : σ1.length ≤ σ2.length) : Fresh β σ σ1 := fun n h3 h4 => h n h3 (Nat.lt_of_lt_of_le h4 h2)
theorem fresh_right {β β1 : Map} {σ σ1 σ2 : Heap} {w w1 : World} (h : Fresh β σ σ2) (st : Step β σ w β1 σ1 w1) : Fresh β1 σ1 σ2 := fun n h3 h4 => by
  cases h5 : β1 n with
  | none => rfl
  | some cb =>
    rcases st.dom n cb h5 with h6 | ⟨_, _, h7, _⟩
    · rw [h n (Nat.le_trans st.len h3) h4] at h6; simp at h6
    · omega

theorem call_op {o : Oper} {c : Call} {T : Tm} {f : FuncId} {args : List Value} {σ σ' : Heap} {v : Value} (ho : o.op = .call c) (hc : acallee (aev P T) c = some (f, args)) (hen : enterable P f = true) (h : CallSound P base f args σ v σ') : OpSound P base o T σ v σ' := by
  intro β a w hx hs hf next Q hn
  obtain ⟨dst, op, ty, pos, after, guard⟩ := o
  simp only at ho
  subst ho
  obtain ⟨callee, as, ats⟩ := c
  unfold acallee at hc
  cases callee with
  | invoke r m => simp at hc
  | builtin b => simp at hc
  | value g =>
    simp only at hc
    have hg := hx g (by simp [Op.operands, Call.operands])
    have has : ∀ x ∈ as.toList, Rel β (aev P T x) (a.eval x) := fun x hm => hx x (by
      simp only [Op.operands, Call.operands]
      simp only [Array.toList_append, List.mem_append]
      exact .inr hm)
    split at hc
    · rename_i g' first captured hgv
      obtain ⟨rfl, rfl⟩ := Prod.mk.inj (Option.some.inj hc)
      rw [hgv] at hg
      obtain ⟨fi, ca, hge, hfi, hca⟩ := hg.func_inv
      have hrel : RelL β (first.toList ++ as.toList.map (aev P T) ++ captured.toList) (fi ++ as.map a.eval ++ ca).toList := by
        simp only [Array.toList_append, Array.toList_map]
        exact (hfi.append (relL_map _ has)).append hca
      unfold enterable at hen
      split at hen
      case h_2 => simp at hen
      rename_i fn hfn
      simp only [Bool.and_eq_true, Bool.not_eq_true'] at hen
      obtain ⟨hbody, hname⟩ := hen
      have hnone : fn.body.isNone = false := by
        cases hb : fn.body with
        | none => rw [hb] at hbody; simp at hbody
        | some => rfl
      have hrun : (execOp a.eval { dst := dst, op := .call { callee := .value g, args := as, argTypes := ats }, type := ty, pos := pos, after := after, guard := guard }).run P w = .ok (.enter g' (fi ++ as.map a.eval ++ ca)) w := by
        simp only [execOp, resolve, Sem.run_bind, Sem.run_pure, Result.andThen_ok, hge, Deferred.ofValue, invoke, callFunc, run_program, hfn, hname, Bool.false_eq_true, if_false, hnone]
      unfold Oper.wp
      rw [hrun, Oper.upon_enter]
      refine (h β w _ hrel hs hf).mono fun e w' hh => ?_
      obtain ⟨β', v', rfl, h1, h2, h3⟩ := hh
      exact hn v' w' β' h1 h2 h3
    · simp at hc

theorem wpOps_cons' {ops : Array Oper} {Q : Exit → Act → World → Prop} {k n : Nat} {o : Oper} {a : Act} {w : World} (ho : ops[k]? = some o) (h : if Region.wanted o (yielded ops a.tmps) = true then o.wp P a w (wpOps P ops Q (List.range' (k + 1) n)) Q else wpOps P ops Q (List.range' (k + 1) n) (a.put o.dst undef) w) :
    wpOps P ops Q (List.range' k (n + 1)) a w := by
  rw [List.range'_succ]
  simp only [wpOps, ho]
  split
  · rename_i hw
    rw [if_pos hw] at h
    exact .inl h
  · rename_i hw
    rw [if_neg hw] at h
    exact h

theorem relT_put {β β' : Map} {N : Nat} {T : Tm} {a : Act} {o : Oper} {v v' : Value} (hsub : ∀ n c, β n = some c → β' n = some c) (h : RelT β N T a.tmps) (hv : Rel β' v v') : RelT β' N (putT T o.dst v) (a.put o.dst v').tmps := by
  cases hd : o.dst with
  | none => exact ⟨h.1, fun t ht => (h.2 t ht).mono hsub⟩
  | some d =>
    refine ⟨by simp [Act.put, h.1], fun t ht => ?_⟩
    by_cases hdt : t = d
    · subst hdt
      rw [putT_eq]
      have : ((a.put (some t) v').tmps.getD t undef) = v' := by
        simp [Act.put, Array.getD_eq_getD_getElem?, h.1, ht]
      rw [this]
      exact hv
    · rw [putT_ne (by simp; exact fun h => hdt h.symm)]
      have : ((a.put (some d) v').tmps.getD t undef) = a.tmps.getD t undef := by
        simp [Act.put, Array.getD_eq_getD_getElem?, Array.getElem?_setIfInBounds_ne (Ne.symm hdt)]
      rw [this]
      exact (h.2 t ht).mono hsub

theorem looks_lt {N : Nat} {ops : Array Oper} (hops : ops.all (okOper N) = true) {k : Nat} {o : Oper} (ho : ops[k]? = some o) : ∀ t ∈ o.looksAt ops, t < N := fun t ht => by
  have hok : okOper N o = true := Array.all_eq_true_iff_forall_mem.1 hops o (Array.mem_of_getElem? ho)
  unfold Oper.looksAt at ht
  rcases List.mem_append.1 ht with ht | ht
  · obtain ⟨x, hx, hxt⟩ := List.mem_filterMap.1 ht
    cases x <;> simp at hxt
    subst hxt
    simp only [okOper, Bool.and_eq_true] at hok
    have := Array.all_eq_true_iff_forall_mem.1 hok.1 _ (by simpa using hx)
    simpa [okOpnd] using this
  · cases hg : o.guard with
    | none => rw [hg] at ht; simp at ht
    | some g =>
      rw [hg] at ht
      simp only at ht
      cases hgd : (ops[g.1]?).bind (·.dst) with
      | none => rw [hgd] at ht; simp at ht
      | some d =>
        rw [hgd] at ht
        simp only [Option.toList_some, List.mem_singleton] at ht
        subst ht
        obtain ⟨oj, hoj, hdj⟩ := Option.bind_eq_some_iff.1 hgd
        have := Array.all_eq_true_iff_forall_mem.1 hops oj (Array.mem_of_getElem? hoj)
        simp only [okOper, hdj, Bool.and_eq_true, decide_eq_true_eq] at this
        exact this.2

theorem drop_cons {ops : Array Oper} {k : Nat} {o : Oper} {l : List Oper} (h : o :: l = ops.toList.drop k) : ops[k]? = some o ∧ l = ops.toList.drop (k + 1) := by
  constructor
  · have : (ops.toList.drop k)[0]? = some o := by rw [← h]; rfl
    rw [List.getElem?_drop] at this
    simpa using this
  · rw [← List.drop_drop, ← h]
    rfl

/-- One operation, in the text's order. -/
theorem op_goal {N : Nat} {ops : Array Oper} {k n : Nat} {o : Oper} {T T1 : Tm} {σ σ0 σ1 : Heap} {v : Value} (hops : ops.all (okOper N) = true) (ho : ops[k]? = some o) (hw : awanted ops T o = some true) (hsound : OpSound P base o T σ v σ0) (hl : σ0.length ≤ σ1.length)
    (h : CodeGoal P base N (putT T o.dst v) σ0 .normal T1 σ1 fun Q => wpOps P ops Q (List.range' (k + 1) n)) : CodeGoal P base N T σ .normal T1 σ1 fun Q => wpOps P ops Q (List.range' k (n + 1)) := by
  intro β a w hT hs hf Q hQ
  refine wpOps_cons' ho ?_
  rw [wanted_eq hT.1 hops hw fun t ht => hT.2 t (looks_lt hops ho t ht)]
  simp only [if_true]
  refine hsound β a w (fun x hx => aev_rel rfl hs.glob fun t ht => hT.2 t (looks_lt hops ho t ?_)) hs (fresh_left hf hl) _ Q fun v' w' β' hv hs' st => ?_
  · unfold Oper.looksAt
    refine List.mem_append_left _ (List.mem_filterMap.2 ⟨x, hx, ?_⟩)
    rw [ht]
  · refine h β' _ w' (relT_put st.sub hT hv) hs' (fresh_right hf st) Q fun a2 w2 β2 g1 g2 g3 g4 => hQ a2 w2 β2 g1 (g2.trans ?_) g3 (st.trans g4)
    cases hd : o.dst <;> rfl
theorem skip_goal {N : Nat} {ops : Array Oper} {k n : Nat} {o : Oper} {T T1 : Tm} {σ σ1 : Heap} (hops : ops.all (okOper N) = true) (ho : ops[k]? = some o) (hw : awanted ops T o = some false)
    (h : CodeGoal P base N (putT T o.dst undef) σ .normal T1 σ1 fun Q => wpOps P ops Q (List.range' (k + 1) n)) : CodeGoal P base N T σ .normal T1 σ1 fun Q => wpOps P ops Q (List.range' k (n + 1)) := by
  intro β a w hT hs hf Q hQ
  refine wpOps_cons' ho ?_
  rw [wanted_eq hT.1 hops hw fun t ht => hT.2 t (looks_lt hops ho t ht)]
  simp only [Bool.false_eq_true, if_false]
  refine h β _ w (relT_put (fun _ _ h => h) hT (rel_undef β)) hs hf Q fun a2 w2 β2 g1 g2 g3 g4 => hQ a2 w2 β2 g1 (g2.trans ?_) g3 g4
  cases hd : o.dst <;> rfl

/-- What a function hands back. -/
theorem results_ok {N : Nat} {β : Map} {T : Tm} {tmps : Array Value} {σ : Heap} {w : World} (hT : RelT β N T tmps) (hs : Sim base P.globals.size β σ w) : ∀ (rs : List ResultVar) (vs : List Value), (∀ r ∈ rs, okRes N r = true) → rs.mapM (aresult P T σ) = some vs →
    ∃ vs', (rs.mapM (resSem tmps)).run P w = .ok vs' w ∧ RelL β vs vs'
  | [], vs, _, h => by
    simp only [List.mapM_nil, Option.pure_def, Option.some.injEq] at h
    subst h
    exact ⟨[], rfl, .nil⟩
  | r :: rs, vs, hok, h => by
    rw [List.mapM_cons] at h
    simp only [Option.bind_eq_bind, Option.pure_def] at h
    obtain ⟨v, hv, h⟩ := Option.bind_eq_some_iff.1 h
    obtain ⟨vs1, hvs1, h⟩ := Option.bind_eq_some_iff.1 h
    obtain rfl := Option.some.inj h
    obtain ⟨vs', h1, h2⟩ := results_ok hT hs rs vs1 (fun r hr => hok r (by simp [hr])) hvs1
    have hr := hok r (by simp)
    have hone : ∃ v', (resSem tmps r).run P w = .ok v' w ∧ Rel β v v' := by
      cases r with
      | tmp t =>
        simp only [aresult, Option.some.injEq] at hv
        subst hv
        exact ⟨_, rfl, hT.2 t (by simpa [okRes] using hr)⟩
      | cell a t =>
        simp only [aresult] at hv
        obtain ⟨v', h3, h4⟩ := load_ok hs (hT.2 a (by simpa [okRes] using hr)) hv
        refine ⟨v', ?_, h4⟩
        unfold Instr.loadAt at h3
        simp only [resSem, Sem.run_bind] at h3 ⊢
        have hptr := hT.2 a (by simpa [okRes] using hr)
        unfold aload at hv
        split at hv
        · rename_i n o hta
          rw [hta] at hptr
          obtain ⟨cb, _, _, he⟩ := hptr.ptr_inv
          rw [he] at h3 ⊢
          exact h3
        · simp at hv
    obtain ⟨v', h3, h4⟩ := hone
    refine ⟨v' :: vs', ?_, .cons _ _ _ _ h4 h2⟩
    rw [List.mapM_cons]
    simp only [Sem.run_bind, h3, Result.andThen_ok, h1, Sem.run_pure]

theorem call_goal {f : FuncId} {fn : Func} {c : Code} {args : List Value} {T1 : Tm} {σ σ1 : Heap} {e : AExit} {v : Value} (hf : P.funcs[f]? = some fn) (hb : fn.body = some c) (hres : fn.results.all (okRes fn.ntmps) = true) (hn : args.length ≤ fn.ntmps)
    (h : CodeGoal P base fn.ntmps (fun t => args.getD t undef) σ e T1 σ1 (Code.wp P c)) (he : e = .normal ∨ e = .ret) (hr : aresults P T1 σ1 fn.results.toList = some v) : CallSound P base f args σ v σ1 := by
  intro β w cargs hrel hs hfr
  have hlen := hrel.length
  simp only [Array.length_toList] at hlen
  refine calls_of_wp hf hb (h β _ w ⟨by simp; omega, fun t ht => ?_⟩ hs hfr _ fun a' w' β' g1 g2 g3 g4 => ?_)
  · have h1 := hrel.getD t
    have h2 : (cargs ++ Array.replicate (fn.ntmps - cargs.size) undef).getD t undef = cargs.toList.getD t undef := by
      rw [Array.getD_eq_getD_getElem?, List.getD_eq_getElem?_getD, Array.getElem?_toList]
      rcases Nat.lt_or_ge t cargs.size with h3 | h3
      · rw [Array.getElem?_append_left h3]
      · rw [Array.getElem?_append_right h3, Array.getElem?_eq_none h3, Array.getElem?_replicate]
        split <;> rfl
    rw [h2]
    exact h1
  · unfold aresults at hr
    obtain ⟨vs, hvs, hv⟩ := Option.map_eq_some_iff.1 hr
    obtain ⟨vs', h1, h2⟩ := results_ok g1 g3 fn.results.toList vs (fun r hr => Array.all_eq_true_iff_forall_mem.1 hres r (by simpa using hr)) hvs
    have hrun : ∃ v', (results fn a'.tmps).run P w' = .ok v' w' ∧ Rel β' v v' := by
      have hu : results fn a'.tmps = (do let vs ← fn.results.mapM (resSem a'.tmps); pure (if h : vs.size = 1 then vs[0] else .tuple vs)) := rfl
      rw [hu]
      have hm : (fn.results.mapM (resSem a'.tmps)).run P w' = .ok vs'.toArray w' := by
        rw [Array.mapM_eq_mapM_toList]
        simp only [Sem.run_map, h1, Result.andThen_ok]
      simp only [Sem.run_bind, hm, Result.andThen_ok, Sem.run_pure]
      refine ⟨_, rfl, ?_⟩
      subst hv
      cases h2 with
      | nil => exact .tuple _ _ .nil
      | cons x y xs ys hxy hxs =>
        cases hxs with
        | nil => exact hxy
        | cons x2 y2 xs2 ys2 h5 h6 =>
          have : ¬ ((y :: y2 :: ys2).toArray.size = 1) := by simp
          rw [dif_neg this]
          exact .tuple _ _ (.cons _ _ _ _ hxy (.cons _ _ _ _ h5 h6))
    obtain ⟨v', h3, h4⟩ := hrun
    rcases he with rfl | rfl
    · exact ⟨g2, v', h3, β', v', rfl, h4, g3, g4⟩
    · exact ⟨g2, v', h3, β', v', rfl, h4, g3, g4⟩

theorem isLd_some {o : Oper} {a : Tmp} (h : isLd o = some a) : ∃ d t ty pos aft, o = ⟨some d, .load t (.tmp a), ty, pos, aft, none⟩ := by
  unfold isLd at h
  split at h
  · obtain rfl := Option.some.inj h
    exact ⟨_, _, _, _, _, rfl⟩
  · simp at h
theorem isSt_some {o : Oper} {a : Tmp} (h : isSt o = some a) : ∃ t x ty pos aft, o = ⟨none, .store t (.tmp a) x, ty, pos, aft, none⟩ := by
  unfold isSt at h
  split at h
  · obtain rfl := Option.some.inj h
    exact ⟨_, _, _, _, _, rfl⟩
  · simp at h
theorem lateLd_some {ops : Array Oper} {i : Nat} {a : Tmp} (h : lateLd ops i = some a) : ∃ o, ops[i]? = some o ∧ isLd o = some a ∧ stays ops a = true ∧ ∀ j oj, j < i → ops[j]? = some oj → quietOp oj = true := by
  unfold lateLd at h
  split at h
  case h_2 => simp at h
  rename_i o ho
  split at h
  case h_2 => simp at h
  rename_i b hb
  split at h
  case isFalse => simp at h
  rename_i hc
  obtain rfl := Option.some.inj h
  refine ⟨o, ho, hb, hc.1, fun j oj hj hoj => ?_⟩
  have := List.all_eq_true.1 hc.2 j (List.mem_range.2 hj)
  simpa only [hoj] using this
theorem lateSt_some {ops : Array Oper} {e : Nat} {a : Tmp} (h : lateSt ops e = some a) : ∃ o, ops[e]? = some o ∧ isSt o = some a ∧ stays ops a = true ∧ ∀ i oi, ops[i]? = some oi → i ≠ e → (lateLd ops i).isSome = true ∨ heapFree oi.op = true ∨ (i < e ∧ befB ops e i = true) ∨ (e < i ∧ befB ops i e = true) := by
  unfold lateSt at h
  split at h
  case h_2 => simp at h
  rename_i o ho
  split at h
  case h_2 => simp at h
  rename_i b hb
  split at h
  case isFalse => simp at h
  rename_i hc
  obtain rfl := Option.some.inj h
  refine ⟨o, ho, hb, hc.1, fun i oi hoi hne => ?_⟩
  have := List.all_eq_true.1 hc.2 i (List.mem_range.2 (Array.getElem?_eq_some_iff.1 hoi).1)
  simp only [hoi, Bool.or_eq_true, Bool.and_eq_true, decide_eq_true_eq, Nat.beq_eq] at this
  rcases this with (((h | h) | h) | h) | h
  · exact absurd h hne
  · exact .inl h
  · exact .inr (.inl h)
  · exact .inr (.inr (.inl h))
  · exact .inr (.inr (.inr h))
theorem stays_ne {ops : Array Oper} {a : Tmp} (h : stays ops a = true) {i : Nat} {o : Oper} (ho : ops[i]? = some o) : o.dst ≠ some a := by
  have := Array.all_eq_true_iff_forall_mem.1 h o (Array.mem_of_getElem? ho)
  intro hd
  rw [hd] at this
  simp at this
theorem load_keep {P : Program} {σ σ' : Heap} {t : TypeId} {p v : Value} (h : aload P σ t p = some v) (hk : ∀ n b, ptrOf p = some n → look σ n = some b → look σ' n = some b) : aload P σ' t p = some v := by
  unfold aload at h ⊢
  split at h
  · rename_i n o
    obtain ⟨b, hb, h2⟩ := Option.bind_eq_some_iff.1 h
    simp only [hk n b rfl hb, Option.bind_some]
    exact h2
  · simp at h
theorem astore_keep {P : Program} {σ σ' : Heap} {t : TypeId} {p v : Value} (h : astore P σ t p v = some σ') {n : Nat} {b : Blk} (hn : some n ≠ ptrOf p) (hb : look σ n = some b) : look σ' n = some b := by
  unfold astore at h
  split at h
  · rename_i m o
    obtain ⟨b2, hb2, h⟩ := Option.bind_eq_some_iff.1 h
    split at h
    · obtain rfl := Option.some.inj h
      rw [look_set_ne (fun e => hn (by rw [e]; rfl))]
      exact hb
    · simp at h
  · simp at h

/-- All the steps of a drawn region, taken in the text's order: every order does so. -/
theorem steps_sound {N : Nat} {ops : Array Oper} {τ : Nat → Tm} {η : Nat → Heap} (k5 : ∀ i o, ops[i]? = some o → StepAt P base ops i o (τ i) (η i) (τ (i + 1)) (η (i + 1))) (hd : drawOk ops = true) (hops : ops.all (okOper N) = true) (hm : P.follows .mixedOrders = true) {β0 : Map} {a0 : Act} {w0 : World}
    (hT : RelT β0 N (τ 0) a0.tmps) (hs : Sim base P.globals.size β0 (η 0) w0) (hf0 : Fresh β0 (η 0) (η ops.size))
    {id : Nat} {Q : Exit → Act → World → Prop} (hQ : ∀ a w β, RelT β N (τ ops.size) a.tmps → a.defers = a0.defers → Sim base P.globals.size β (η ops.size) w → Step β0 (η 0) w0 β (η ops.size) w → Q .normal a w) : (Code.region id ops true).wp P Q a0 w0 := by
  have fine : ∀ e, loudOk ops e = true → LoudFine P base ops τ η e := fun e he i o ho hne => by
    cases hf : heapFree o.op with
    | true => exact .inl ⟨o, ho, .inr (.inl hf)⟩
    | false => exact .inr (loud_spec' he ho hne hf)
  by_cases hap : ∃ i o, ops[i]? = some o ∧ Late ops (τ i)
  · obtain ⟨i0, o0, ho0, hlo, hdiff⟩ := hap
    have hi0 := (Array.getElem?_eq_some_iff.1 ho0).1
    -- what the region does not write stays
    have stay1 : ∀ a, stays ops a = true → ∀ d, d ≤ ops.size → τ d a = τ 0 a := by
      intro a ha d
      induction d with
      | zero => intro _; rfl
      | succ d ih =>
        intro hdl
        obtain ⟨o, ho⟩ : ∃ o, ops[d]? = some o := ⟨_, Array.getElem?_eq_getElem (by omega)⟩
        rw [← ih (by omega)]
        rcases k5 d o ho with ⟨_, h, _⟩ | ⟨_, v, h, _⟩ <;> rw [h, putT_ne (stays_ne ha ho)]
    -- a quiet step leaves the heap
    have quiet1 : ∀ i o, ops[i]? = some o → quietOp o = true → η (i + 1) = η i := fun i o ho hq => by
      rcases k5 i o ho with ⟨_, _, h⟩ | ⟨_, v, _, _, _, ha, h⟩
      · exact h
      · rcases h with ⟨_, h, _⟩ | ⟨hf, _⟩
        · exact h
        · unfold quietOp at hq
          rw [hf, Bool.false_or] at hq
          obtain ⟨a, hq⟩ := Option.isSome_iff_exists.1 hq
          obtain ⟨d, t, ty, pos, aft, rfl⟩ := isLd_some hq
          rcases ha with ⟨c, hc⟩ | ha
          · simp at hc
          · simp only [aop, Option.map_eq_some_iff, Prod.mk.injEq] at ha
            obtain ⟨_, _, _, h⟩ := ha
            exact h.symm
    have steady : ∀ i a, lateLd ops i = some a → FreeAt P base ops τ η i := fun i a hla => by
      obtain ⟨o, ho, hld, hst, hq⟩ := lateLd_some hla
      have hi := (Array.getElem?_eq_some_iff.1 ho).1
      obtain ⟨d, t, ty, pos, aft, rfl⟩ := isLd_some hld
      refine ⟨_, ho, .inr (.inr ⟨quiet1 i _ ho (by simp [quietOp, hld]), fun j hj => ?_, ?_⟩)⟩
      · obtain ⟨oj, hoj⟩ : ∃ oj, ops[j]? = some oj := ⟨_, Array.getElem?_eq_getElem (by omega)⟩
        rw [quiet1 j oj hoj (hq j oj hj hoj)]
        exact List.prefix_refl _
      · rcases k5 i _ ho with ⟨hw, _⟩ | ⟨_, v, hτ, _, _, ha, _⟩
        · simp [awanted] at hw
        rcases ha with ⟨c, hc⟩ | ha
        · simp at hc
        simp only [aop, Option.map_eq_some_iff, Prod.mk.injEq] at ha
        obtain ⟨v', ha, rfl, _⟩ := ha
        refine ⟨v', hτ, fun j hij hj => opSound_of_aop ?_⟩
        have key : ∀ d, i + d ≤ ops.size → aload P (η (i + d)) t (aev P (τ i) (.tmp a)) = some v' := by
          intro d
          induction d with
          | zero => intro _; exact ha
          | succ d ih =>
            intro hdl
            obtain ⟨oj, hoj⟩ : ∃ oj, ops[i + d]? = some oj := ⟨_, Array.getElem?_eq_getElem (by omega)⟩
            refine load_keep (ih (by omega)) fun n b hn hb => ?_
            rw [show i + (d + 1) = i + d + 1 by omega]
            have hcase := List.all_eq_true.1 hlo (i + d) (List.mem_range.2 (by omega))
            simp only [hoj, Bool.or_eq_true] at hcase
            rcases hcase with hc | hc
            · rw [quiet1 _ oj hoj hc]; exact hb
            · obtain ⟨b', hb'⟩ := Option.isSome_iff_exists.1 hc
              obtain ⟨oe, hoe, hse, hste, _⟩ := lateSt_some hb'
              rw [hoj] at hoe
              obtain rfl := Option.some.inj hoe
              obtain ⟨t2, x2, ty2, pos2, aft2, rfl⟩ := isSt_some hse
              rcases k5 _ _ hoj with ⟨hw, _⟩ | ⟨_, v2, _, _, _, ha2, _⟩
              · simp [awanted] at hw
              rcases ha2 with ⟨c, hc⟩ | ha2
              · simp at hc
              simp only [aop, Option.map_eq_some_iff, Prod.mk.injEq] at ha2
              obtain ⟨σ2, ha2, _, h2⟩ := ha2
              rw [← h2]
              refine astore_keep ha2 ?_ hb
              rw [← hn]
              have h5 := hdiff a (List.mem_filterMap.2 ⟨i, List.mem_range.2 hi, hla⟩) b' (List.mem_filterMap.2 ⟨i + d, List.mem_range.2 (by omega), hb'⟩)
              rw [stay1 a hst i0 (by omega), stay1 b' hste i0 (by omega)] at h5
              show ptrOf (τ i a) ≠ ptrOf (τ (i + d) b')
              rw [stay1 a hst i (by omega), stay1 b' hste (i + d) (by omega)]
              exact h5
        have := key (j - i) (by omega)
        rw [show i + (j - i) = j by omega] at this
        simp only [aop, this, Option.map_some]
    refine draw_sound ⟨fun i o ho => ?_⟩ hd hops hm hT hs hf0 hQ
    rcases k5 i o ho with h | ⟨hw, v, h7, h8, h9, _, h10⟩
    · exact .inl h
    · refine .inr ⟨hw, v, h7, h8, h9, ?_⟩
      rcases h10 with h10 | ⟨h10, h11⟩
      · exact .inl h10
      · refine .inr ⟨h10, ?_⟩
        have hcase := List.all_eq_true.1 hlo i (List.mem_range.2 (Array.getElem?_eq_some_iff.1 ho).1)
        simp only [ho, Bool.or_eq_true] at hcase
        rcases hcase with hc | hc
        · rw [quiet1 i o ho hc]; exact .inl (List.prefix_refl _)
        · obtain ⟨b', hb'⟩ := Option.isSome_iff_exists.1 hc
          obtain ⟨oe, hoe, _, _, hall⟩ := lateSt_some hb'
          refine .inr fun i' o' ho' hne => ?_
          rcases hall i' o' ho' hne with h | h | h
          · obtain ⟨a, ha⟩ := Option.isSome_iff_exists.1 h
            exact .inl (steady i' a ha)
          · exact .inl ⟨o', ho', .inr (.inl h)⟩
          · exact .inr h
  · refine draw_sound ⟨fun i o ho => ?_⟩ hd hops hm hT hs hf0 hQ
    rcases k5 i o ho with h | ⟨hw, v, h7, h8, h9, _, h10⟩
    · exact .inl h
    · refine .inr ⟨hw, v, h7, h8, h9, ?_⟩
      rcases h10 with h10 | ⟨h10, h11⟩
      · exact .inl h10
      · refine .inr ⟨h10, ?_⟩
        rcases h11 with h11 | h11 | h11
        · exact .inl h11
        · exact .inr (fine i h11)
        · exact absurd ⟨i, o, ho, h11⟩ hap

/-- **A run of the abstract machine tells what the machine's own calls do.** -/
theorem run_sound (hm : P.follows .mixedOrders = true) {X : Ext} (hX : ∀ f args σ v σ', X f args σ v σ' → CallSound P base f args σ v σ' ∧ σ.length ≤ σ'.length) {j : Job} {σ σ' : Heap} {o : Out} (h : Run P X j σ o σ') : Sound P base j σ o σ' := by
  have hXl : ∀ f args σ v σ', X f args σ v σ' → σ.length ≤ σ'.length := fun f args σ v σ' h => (hX f args σ v σ' h).2
  induction h with
  | skip => exact ⟨fun _ β a w hT hs hf Q hQ => wp_skip (hQ a w β hT rfl hs (Step.refl _ _ _)), fun c' h => by simp at h⟩
  | exit => exact ⟨fun _ β a w hT hs hf Q hQ => wp_exit (hQ a w β hT rfl hs (Step.refl _ _ _)), fun c' h => by simp at h⟩
  | ret => exact ⟨fun _ β a w hT hs hf Q hQ => wp_ret (hQ a w β hT rfl hs (Step.refl _ _ _)), fun c' h => by simp at h⟩
  | @seqN N ca cb T T1 σ σ1 o σ2 h1 h2 ih1 ih2 =>
    cases o with
    | val v => trivial
    | ex e T' =>
      refine ⟨fun hok β a w hT hs hf Q hQ => ?_, fun c' h => by simp at h⟩
      simp only [okCode, Bool.and_eq_true] at hok
      refine wp_seq (ih1.1 hok.1 β a w hT hs (fresh_left hf (run_len hXl h2)) _ fun a1 w1 β1 g1 g2 g3 g4 => ?_)
      exact ih2.1 hok.2 β1 a1 w1 g1 g3 (fresh_right hf g4) Q fun a2 w2 β2 k1 k2 k3 k4 => hQ a2 w2 β2 k1 (k2.trans g2) k3 (g4.trans k4)
  | @seqX N ca cb T T1 σ σ1 e h1 he ih1 =>
    refine ⟨fun hok β a w hT hs hf Q hQ => ?_, fun c' h => by simp at h⟩
    simp only [okCode, Bool.and_eq_true] at hok
    refine wp_seq (ih1.1 hok.1 β a w hT hs hf _ fun a1 w1 β1 g1 g2 g3 g4 => ?_)
    have := hQ a1 w1 β1 g1 g2 g3 g4
    cases e with
    | normal => exact absurd rfl he
    | exit id => exact this
    | ret => exact this
  | @cond N c x y T σ o σ' t hc h1 ih1 =>
    cases o with
    | val v => trivial
    | ex e T' =>
      refine ⟨fun hok β a w hT hs hf Q hQ => ?_, fun c' h => by simp at h⟩
      simp only [okCode, Bool.and_eq_true] at hok
      have hcr : Rel β (aev P T c) (a.eval c) := aev_rel rfl hs.glob fun t ht => hT.2 t (by
        have := hok.1.1
        rw [ht] at this
        simpa [okOpnd] using this)
      rw [hc] at hcr
      refine wp_cond hcr.bool_inv ?_
      have hok2 : okCode N (if t = true then x else y) = true := by cases t <;> simp [hok.2, hok.1.2]
      exact ih1.1 hok2 β a w hT hs hf Q hQ
  | @block N id c T T1 σ σ1 e h1 ih1 =>
    refine ⟨fun hok β a w hT hs hf Q hQ => ?_, fun c' h => by simp at h⟩
    simp only [okCode] at hok
    refine wp_block (ih1.1 hok β a w hT hs hf _ fun a1 w1 β1 g1 g2 g3 g4 => ?_)
    have := hQ a1 w1 β1 g1 g2 g3 g4
    cases e with
    | normal => exact this
    | ret => exact this
    | exit i =>
      simp only [AExit.conc, Exit.inBlock]
      simp only [AExit.leave] at this
      split
      · rename_i hi
        rw [if_pos hi] at this
        exact this
      · rename_i hi
        rw [if_neg hi] at this
        exact this
  | @loopN N c T T1 σ σ1 o σ2 h1 h2 ih1 ih2 =>
    cases o with
    | val v => trivial
    | ex e T' =>
      have rounds : ∀ c', Code.loop c = .loop c' → okCode N c' = true → ∃ n, CodeGoal P base N T σ e T' σ2 fun Q => Code.rounds P c' Q n := by
        intro c' hc' hok
        simp only [Code.loop.injEq] at hc'
        subst hc'
        obtain ⟨n, hn⟩ := ih2.2 c rfl hok
        refine ⟨n + 1, fun β a w hT hs hf Q hQ => ?_⟩
        show Code.rounds P c Q (n + 1) a w
        rw [rounds_succ]
        refine ih1.1 hok β a w hT hs (fresh_left hf (run_len hXl h2)) _ fun a1 w1 β1 g1 g2 g3 g4 => ?_
        exact hn β1 a1 w1 g1 g3 (fresh_right hf g4) Q fun a2 w2 β2 k1 k2 k3 k4 => hQ a2 w2 β2 k1 (k2.trans g2) k3 (g4.trans k4)
      refine ⟨fun hok β a w hT hs hf Q hQ => ?_, rounds⟩
      obtain ⟨n, hn⟩ := rounds c rfl (by simpa [okCode] using hok)
      exact wp_loop_rounds n (hn β a w hT hs hf Q hQ)
  | @loopX N c T T1 σ σ1 e h1 he ih1 =>
    have rounds : ∀ c', Code.loop c = .loop c' → okCode N c' = true → ∃ n, CodeGoal P base N T σ e T1 σ1 fun Q => Code.rounds P c' Q n := by
      intro c' hc' hok
      simp only [Code.loop.injEq] at hc'
      subst hc'
      refine ⟨1, fun β a w hT hs hf Q hQ => ?_⟩
      show Code.rounds P c Q (0 + 1) a w
      rw [rounds_succ]
      refine ih1.1 hok β a w hT hs hf _ fun a1 w1 β1 g1 g2 g3 g4 => ?_
      have := hQ a1 w1 β1 g1 g2 g3 g4
      cases e with
      | normal => exact absurd rfl he
      | exit id => exact this
      | ret => exact this
    refine ⟨fun hok β a w hT hs hf Q hQ => ?_, rounds⟩
    obtain ⟨n, hn⟩ := rounds c rfl (by simpa [okCode] using hok)
    exact wp_loop_rounds n (hn β a w hT hs hf Q hQ)
  | @region N id ops T T1 σ σ1 h1 ih1 =>
    refine ⟨fun hok β a w hT hs hf Q hQ => ?_, fun c' h => by simp at h⟩
    simp only [okCode] at hok
    refine wp_region ?_
    have := ih1 (by simp) hok β a w hT hs hf Q hQ
    rw [List.range_eq_range']
    simpa using this
  | @regionDraw N id ops T T1 σ σ1 hd h1 ih1 =>
    refine ⟨fun hok β a w hT hs hf Q hQ => ?_, fun c' h => by simp at h⟩
    simp only [okCode] at hok
    obtain ⟨τ, η, k1, k2, k3, k4, k5⟩ := ih1 (by simp)
    have hz : 0 + ops.toList.length = ops.size := by simp
    rw [hz] at k3 k4
    subst k1; subst k2; subst k3; subst k4
    exact steps_sound (fun i o ho => k5 i o (Nat.zero_le _) ho) hd hok hm hT hs hf fun a2 w2 β2 g1 g2 g3 g4 => hQ a2 w2 β2 g1 g2 g3 g4
  | opsNil => exact fun _ _ β a w hT hs hf Q hQ => hQ a w β hT rfl hs (Step.refl _ _ _)
  | opsSkip hw h1 ih1 =>
    intro hl hops
    obtain ⟨ho, hl2⟩ := drop_cons hl
    exact skip_goal hops ho hw (ih1 hl2 hops)
  | opsStep hw hv h1 ih1 =>
    intro hl hops
    obtain ⟨ho, hl2⟩ := drop_cons hl
    exact op_goal hops ho hw (opSound_of_aop hv) (run_len hXl h1) (ih1 hl2 hops)
  | opsCall hw ho' hc hen hv h1 ihv ih1 =>
    intro hl hops
    obtain ⟨ho, hl2⟩ := drop_cons hl
    exact op_goal hops ho hw (call_op ho' hc hen ihv) (run_len hXl h1) (ih1 hl2 hops)
  | @drawNil N ops k T σ => exact fun _ => ⟨fun _ => T, fun _ => σ, rfl, rfl, rfl, rfl, fun i o hi ho => by
      rename_i hl
      have h1 : ops.size ≤ k := by
        have := congrArg List.length hl
        simp at this
        omega
      have h2 := (Array.getElem?_eq_some_iff.1 ho).1
      omega⟩
  | @drawSkip N ops k o l T σ T1 σ1 hw h1 ih1 =>
    intro hl
    obtain ⟨ho, hl2⟩ := drop_cons hl
    obtain ⟨τ, η, k1, k2, k3, k4, k5⟩ := ih1 hl2
    refine ⟨fun i => if i ≤ k then T else τ i, fun i => if i ≤ k then σ else η i, by simp, by simp, ?_, ?_, fun i o' hi ho' => ?_⟩
    · show (if k + (l.length + 1) ≤ k then T else τ (k + (l.length + 1))) = T1
      rw [if_neg (by omega), ← k3, show k + (l.length + 1) = k + 1 + l.length by omega]
    · show (if k + (l.length + 1) ≤ k then σ else η (k + (l.length + 1))) = σ1
      rw [if_neg (by omega), ← k4, show k + (l.length + 1) = k + 1 + l.length by omega]
    · by_cases hik : i = k
      · subst hik
        rw [ho] at ho'
        obtain rfl := Option.some.inj ho'
        simp only [Nat.le_refl, if_true, show ¬ (i + 1 ≤ i) by omega, if_false, k1, k2]
        exact .inl ⟨hw, rfl, rfl⟩
      · simp only [show ¬ (i ≤ k) by omega, if_false, show ¬ (i + 1 ≤ k) by omega]
        exact k5 i o' (by omega) ho'
  | @drawStep N ops k o l T σ T1 σ1 v σ0 hw hv hq h1 ih1 =>
    intro hl
    obtain ⟨ho, hl2⟩ := drop_cons hl
    obtain ⟨τ, η, k1, k2, k3, k4, k5⟩ := ih1 hl2
    refine ⟨fun i => if i ≤ k then T else τ i, fun i => if i ≤ k then σ else η i, by simp, by simp, ?_, ?_, fun i o' hi ho' => ?_⟩
    · show (if k + (l.length + 1) ≤ k then T else τ (k + (l.length + 1))) = T1
      rw [if_neg (by omega), ← k3, show k + (l.length + 1) = k + 1 + l.length by omega]
    · show (if k + (l.length + 1) ≤ k then σ else η (k + (l.length + 1))) = σ1
      rw [if_neg (by omega), ← k4, show k + (l.length + 1) = k + 1 + l.length by omega]
    · by_cases hik : i = k
      · subst hik
        rw [ho] at ho'
        obtain rfl := Option.some.inj ho'
        simp only [Nat.le_refl, if_true, show ¬ (i + 1 ≤ i) by omega, if_false, k1, k2]
        refine .inr ⟨hw, v, rfl, opSound_of_aop hv, aop_len hv, .inr hv, ?_⟩
        cases hfree : heapFree o.op with
        | true =>
          obtain ⟨he, hany⟩ := aop_free hfree hv
          exact .inl ⟨rfl, he, fun σ1 => opSound_of_aop (hany σ1)⟩
        | false =>
          rcases hq with hq | hq
          · rw [hfree] at hq; simp at hq
          · exact .inr ⟨rfl, hq⟩
      · simp only [show ¬ (i ≤ k) by omega, if_false, show ¬ (i + 1 ≤ k) by omega]
        exact k5 i o' (by omega) ho'
  | @drawCall N ops k o l T σ T1 σ1 v σ0 c f args hw ho' hc hen hv hq h1 ihv ih1 =>
    intro hl
    obtain ⟨ho, hl2⟩ := drop_cons hl
    obtain ⟨τ, η, k1, k2, k3, k4, k5⟩ := ih1 hl2
    refine ⟨fun i => if i ≤ k then T else τ i, fun i => if i ≤ k then σ else η i, by simp, by simp, ?_, ?_, fun i o' hi ho'' => ?_⟩
    · show (if k + (l.length + 1) ≤ k then T else τ (k + (l.length + 1))) = T1
      rw [if_neg (by omega), ← k3, show k + (l.length + 1) = k + 1 + l.length by omega]
    · show (if k + (l.length + 1) ≤ k then σ else η (k + (l.length + 1))) = σ1
      rw [if_neg (by omega), ← k4, show k + (l.length + 1) = k + 1 + l.length by omega]
    · by_cases hik : i = k
      · subst hik
        rw [ho] at ho''
        obtain rfl := Option.some.inj ho''
        simp only [Nat.le_refl, if_true, show ¬ (i + 1 ≤ i) by omega, if_false, k1, k2]
        refine .inr ⟨hw, v, rfl, call_op ho' hc hen ihv, run_len hXl hv, .inl ⟨c, ho'⟩, .inr ⟨?_, hq⟩⟩
        rw [ho']
        obtain ⟨callee, as, ats⟩ := c
        unfold acallee at hc
        cases callee with
        | value g => rfl
        | invoke r m => simp at hc
        | builtin b => simp at hc
      · simp only [show ¬ (i ≤ k) by omega, if_false, show ¬ (i + 1 ≤ k) by omega]
        exact k5 i o' (by omega) ho''
  | call hf hb hok hres hn h1 he hr ih1 => exact call_goal hf hb hres hn (ih1.1 hok) he hr
  | ext h => exact (hX _ _ _ _ _ h).1
end
end Go.Proofs.YtkgdkommahgakaaDoor.Abs

/- The abstract machine: what a run needs, told as a proposition that Lean's simplifier can work out. -/
namespace Go.Proofs.YtkgdkommahgakaaDoor.Abs
open Go Go.RowKit
set_option linter.unusedVariables false
set_option linter.unusedSimpArgs false

/-- A value is there, and of it ... -/
def thus {α : Type} (o : Option α) (K : α → Prop) : Prop := ∃ a, o = some a ∧ K a
theorem thus_some {α : Type} (a : α) (K : α → Prop) : thus (some a) K = K a := by simp [thus]

/-- A call comes back with a value of which ... -/
def CW (P : Program) (X : Ext) (f : FuncId) (args : List Value) (σ : Heap) (K : Value → Heap → Prop) : Prop :=
  enterable P f = true ∧ ∃ v σ', Run P X (.call f args) σ (.val v) σ' ∧ K v σ'
/-- The code comes to an end of which ... -/
def WC (P : Program) (X : Ext) (N : Nat) (c : Code) (T : Tm) (σ : Heap) (Q : AExit → Tm → Heap → Prop) : Prop :=
  ∃ e T' σ', Run P X (.code N c T) σ (.ex e T') σ' ∧ Q e T' σ'
def Side (ops : Array Oper) (k : Nat) (σ σ' : Heap) : Prop := σ <+: σ' ∨ loudOk ops k = true
/-- Every drawn region of the code bears any order. -/
def okDraws : Code → Bool
  | .region _ ops true => drawOk ops
  | .seq a b => okDraws a && okDraws b
  | .cond _ a b => okDraws a && okDraws b
  | .block _ c => okDraws c
  | .loop c => okDraws c
  | _ => true
def LW (P : Program) (X : Ext) (N : Nat) (c : Code) (T : Tm) (σ : Heap) (Q : AExit → Tm → Heap → Prop) : Prop := okDraws c = true → WC P X N (.loop c) T σ Q
def Quiet (P : Program) (o : Oper) (ops : Array Oper) (k : Nat) (T : Tm) (σ σ' : Heap) : Prop := heapFree o.op = true ∨ Side ops k σ σ' ∨ Late ops T

section
variable (P : Program) (X : Ext)
/-- One operation. -/
def vcOp (o : Op) (T : Tm) (σ : Heap) (K : Value → Heap → Prop) : Prop :=
  match o with
  | .call c => match c.callee with
    | .value g => thus (acallee (aev P T) c) fun p => CW P X p.1 p.2 σ K
    | .builtin _ => thus (aop P (aev P T) σ (.call c)) fun p => K p.1 p.2
    | .invoke _ _ => False
  | o => thus (aop P (aev P T) σ o) fun p => K p.1 p.2
def vcStep (ops : Array Oper) (o : Oper) (T : Tm) (σ : Heap) (K : Tm → Heap → Prop) : Prop :=
  thus (awanted ops T o) fun b => if b = true then vcOp P X o.op T σ fun v σ' => K (putT T o.dst v) σ' else K (putT T o.dst undef) σ
def vcOps (ops : Array Oper) : List Oper → Tm → Heap → (Tm → Heap → Prop) → Prop
  | [], T, σ, K => K T σ
  | o :: l, T, σ, K => vcStep P X ops o T σ fun T' σ' => vcOps ops l T' σ' K
def vcDraw (ops : Array Oper) : Nat → List Oper → Tm → Heap → (Tm → Heap → Prop) → Prop
  | _, [], T, σ, K => K T σ
  | k, o :: l, T, σ, K => vcStep P X ops o T σ fun T' σ' => Quiet P o ops k T σ σ' ∧ vcDraw ops (k + 1) l T' σ' K
def vc (N : Nat) : Code → Tm → Heap → (AExit → Tm → Heap → Prop) → Prop
  | .skip, T, σ, Q => Q .normal T σ
  | .exit id, T, σ, Q => Q (.exit id) T σ
  | .ret, T, σ, Q => Q .ret T σ
  | .seq a b, T, σ, Q => vc N a T σ fun e T' σ' => match e with
    | .normal => vc N b T' σ' Q
    | e => Q e T' σ'
  | .cond c x y, T, σ, Q => ∃ t, aev P T c = .bool t ∧ (t = true → vc N x T σ Q) ∧ (t = false → vc N y T σ Q)
  | .block id c, T, σ, Q => vc N c T σ fun e => Q (e.leave id)
  | .loop c, T, σ, Q => LW P X N c T σ Q
  | .region _ ops false, T, σ, Q => vcOps P X ops ops.toList T σ (Q .normal)
  | .region _ ops true, T, σ, Q => vcDraw P X ops 0 ops.toList T σ (Q .normal)
  | _, _, _, _ => False
end

section
variable {P : Program} {X : Ext}
theorem vcOp_run {o : Op} {T : Tm} {σ : Heap} {K : Value → Heap → Prop} (h : vcOp P X o T σ K) :
    ∃ v σ', K v σ' ∧ (aop P (aev P T) σ o = some (v, σ') ∨ ∃ c f args, o = .call c ∧ acallee (aev P T) c = some (f, args) ∧ enterable P f = true ∧ Run P X (.call f args) σ (.val v) σ') := by
  unfold vcOp at h
  split at h
  · split at h
    · obtain ⟨p, h1, h2, v, σ', h3, h4⟩ := h
      exact ⟨v, σ', h4, .inr ⟨_, _, _, rfl, h1, h2, h3⟩⟩
    · obtain ⟨p, h1, h2⟩ := h
      exact ⟨_, _, h2, .inl h1⟩
    · exact h.elim
  · obtain ⟨p, h1, h2⟩ := h
    exact ⟨_, _, h2, .inl h1⟩
theorem vcOps_run {N : Nat} {ops : Array Oper} : ∀ {l : List Oper} {k : Nat} {T : Tm} {σ : Heap} {K : Tm → Heap → Prop}, vcOps P X ops l T σ K → ∃ T' σ', Run P X (.ops N ops k l T) σ (.ex .normal T') σ' ∧ K T' σ'
  | [], _, T, σ, K, h => ⟨T, σ, .opsNil, h⟩
  | o :: l, k, T, σ, K, h => by
    unfold vcOps vcStep at h
    obtain ⟨b, hb, h⟩ := h
    split at h
    · rename_i hbt
      subst hbt
      obtain ⟨v, σ1, h1, h2⟩ := vcOp_run h
      obtain ⟨T', σ', h3, h4⟩ := vcOps_run h1
      refine ⟨T', σ', ?_, h4⟩
      rcases h2 with h2 | ⟨c, f, args, h5, h6, h7, h8⟩
      · exact .opsStep hb h2 h3
      · exact .opsCall hb h5 h6 h7 h8 h3
    · rename_i hbt
      have hb2 : b = false := by cases b <;> simp_all
      subst hb2
      obtain ⟨T', σ', h3, h4⟩ := vcOps_run h
      exact ⟨T', σ', .opsSkip hb h3, h4⟩
theorem vcDraw_run {N : Nat} {ops : Array Oper} : ∀ {l : List Oper} {k : Nat} {T : Tm} {σ : Heap} {K : Tm → Heap → Prop}, vcDraw P X ops k l T σ K → ∃ T' σ', Run P X (.draw N ops k l T) σ (.ex .normal T') σ' ∧ K T' σ'
  | [], _, T, σ, K, h => ⟨T, σ, .drawNil, h⟩
  | o :: l, k, T, σ, K, h => by
    unfold vcDraw vcStep at h
    obtain ⟨b, hb, h⟩ := h
    split at h
    · rename_i hbt
      subst hbt
      obtain ⟨v, σ1, ⟨hs, h1⟩, h2⟩ := vcOp_run h
      obtain ⟨T', σ', h3, h4⟩ := vcDraw_run h1
      unfold Quiet Side at hs
      refine ⟨T', σ', ?_, h4⟩
      rcases h2 with h2 | ⟨c, f, args, h5, h6, h7, h8⟩
      · exact .drawStep hb h2 (by rcases hs with hs | (hs | hs) | hs <;> simp [hs]) h3
      · refine .drawCall hb h5 h6 h7 h8 ?_ h3
        rcases hs with hs | hs
        · exfalso
          rw [h5] at hs
          obtain ⟨callee, as, ats⟩ := c
          cases callee with
          | value g => simp [heapFree] at hs
          | invoke r m => simp [acallee] at h6
          | builtin b => simp [acallee] at h6
        · exact or_assoc.1 hs
    · rename_i hbt
      have hb2 : b = false := by cases b <;> simp_all
      subst hb2
      obtain ⟨_, h⟩ := h
      obtain ⟨T', σ', h3, h4⟩ := vcDraw_run h
      exact ⟨T', σ', .drawSkip hb h3, h4⟩
theorem vc_run {N : Nat} : ∀ {c : Code} {T : Tm} {σ : Heap} {Q : AExit → Tm → Heap → Prop}, okDraws c = true → vc P X N c T σ Q → WC P X N c T σ Q
  | .skip, T, σ, Q, hd, h => ⟨_, _, _, .skip, h⟩
  | .exit id, T, σ, Q, hd, h => ⟨_, _, _, .exit, h⟩
  | .ret, T, σ, Q, hd, h => ⟨_, _, _, .ret, h⟩
  | .seq a b, T, σ, Q, hd, h => by
    simp only [okDraws, Bool.and_eq_true] at hd
    obtain ⟨e, T1, σ1, h1, h2⟩ := vc_run (c := a) hd.1 h
    cases e with
    | normal =>
      obtain ⟨e, T2, σ2, h3, h4⟩ := vc_run (c := b) hd.2 h2
      exact ⟨e, T2, σ2, .seqN h1 h3, h4⟩
    | exit id => exact ⟨_, T1, σ1, .seqX h1 (by simp), h2⟩
    | ret => exact ⟨_, T1, σ1, .seqX h1 (by simp), h2⟩
  | .cond c x y, T, σ, Q, hd, h => by
    simp only [okDraws, Bool.and_eq_true] at hd
    obtain ⟨t, h1, h2, h3⟩ := h
    cases t with
    | true =>
      obtain ⟨e, T2, σ2, h3, h4⟩ := vc_run (c := x) hd.1 (h2 rfl)
      exact ⟨e, T2, σ2, .cond h1 h3, h4⟩
    | false =>
      obtain ⟨e, T2, σ2, h3, h4⟩ := vc_run (c := y) hd.2 (h3 rfl)
      exact ⟨e, T2, σ2, .cond h1 h3, h4⟩
  | .block id c, T, σ, Q, hd, h => by
    obtain ⟨e, T1, σ1, h1, h2⟩ := vc_run (c := c) hd h
    exact ⟨_, T1, σ1, .block h1, h2⟩
  | .loop c, T, σ, Q, hd, h => h hd
  | .region _ ops false, T, σ, Q, hd, h => by
    obtain ⟨T', σ', h1, h2⟩ := vcOps_run h
    exact ⟨_, T', σ', .region h1, h2⟩
  | .region _ ops true, T, σ, Q, hd, h => by
    obtain ⟨T', σ', h1, h2⟩ := vcDraw_run h
    exact ⟨_, T', σ', .regionDraw hd h1, h2⟩

end
end Go.Proofs.YtkgdkommahgakaaDoor.Abs

/- The abstract machine: the simplifier's rules by which 'vc' is worked out, from the front on. -/
namespace Go.Proofs.YtkgdkommahgakaaDoor.Abs
open Go Go.RowKit
set_option linter.unusedVariables false
set_option linter.unusedSimpArgs false

/-- A test: what each answer asks. -/
def fork (p : Bool) (A B : Prop) : Prop := (p = true → A) ∧ (p = false → B)
def onBool (v : Value) (K : Bool → Prop) : Prop := ∃ t, v = .bool t ∧ K t
def thus2 {α β : Type} (o : Option (α × β)) (K : α → β → Prop) : Prop := ∃ a b, o = some (a, b) ∧ K a b
theorem thus2_some {α β : Type} (a : α) (b : β) (K : α → β → Prop) : thus2 (some (a, b)) K = K a b := by
  apply propext
  constructor
  · rintro ⟨a', b', h1, h2⟩
    obtain ⟨rfl, rfl⟩ := Prod.mk.inj (Option.some.inj h1)
    exact h2
  · exact fun h => ⟨a, b, rfl, h⟩
theorem thus2_eq {α β : Type} (o : Option (α × β)) (K : α → β → Prop) : (thus o fun p => K p.1 p.2) = thus2 o K := by
  apply propext
  constructor
  · rintro ⟨⟨a, b⟩, h1, h2⟩
    exact ⟨a, b, h1, h2⟩
  · rintro ⟨a, b, h1, h2⟩
    exact ⟨(a, b), h1, h2⟩
/-- A value's cells, as a list. -/
def cl (v : Value) : List Value := v.cells.toList
def lone (v : Value) : Bool := (cl v).all (·.oneCell')
theorem cl_size (v : Value) : v.cells.size = (cl v).length := by simp [cl]
theorem lone_eq (v : Value) : v.cells.all (·.oneCell') = lone v := by simp [lone, cl]
/-- A mark: by it a congruence of the simplifier's is always taken, and it does not look behind what stands still. -/
def here {α : Type} (a : α) : α := a
theorem here_eq {α : Type} (a : α) : here a = a := eq_of_heq HEq.rfl
theorem fork_true (A B : Prop) : fork true A B = A := by simp [fork]
theorem fork_false (A B : Prop) : fork false A B = B := by simp [fork]
theorem onBool_bool (t : Bool) (K : Bool → Prop) : onBool (.bool t) K = K t := by simp [onBool]
theorem thus_map {α β : Type} (o : Option α) (f : α → β) (K : β → Prop) : thus (o.map f) K = thus o fun a => K (f a) := by cases o <;> simp [thus]
theorem thus_congr {α : Type} {o o' : Option α} {K : α → Prop} (h : here o = o') : thus o K = thus o' K := by rw [← h]; rfl
theorem thus2_congr {α β : Type} {o o' : Option (α × β)} {K : α → β → Prop} (h : here o = o') : thus2 o K = thus2 o' K := by rw [← h]; rfl
theorem fork_congr {p p' : Bool} {A B : Prop} (h : here p = p') : fork p A B = fork p' A B := by rw [← h]; rfl
theorem onBool_congr {v v' : Value} {K : Bool → Prop} (h : here v = v') : onBool v K = onBool v' K := by rw [← h]; rfl
theorem CW_congr {P : Program} {X : Ext} {f : FuncId} {args args' : List Value} {σ σ' : Heap} {K : Value → Heap → Prop} (h : here args = args') (h2 : here σ = σ') : CW P X f args σ K = CW P X f args' σ' K := by rw [← h, ← h2]; rfl
theorem LW_congr {P : Program} {X : Ext} {N : Nat} {c : Code} {T : Tm} {σ σ' : Heap} {Q : AExit → Tm → Heap → Prop} (h2 : here σ = σ') : LW P X N c T σ Q = LW P X N c T σ' Q := by rw [← h2]; rfl
theorem fork_dec {φ : Prop} [Decidable φ] {A B : Prop} (h : φ → A) (h' : ¬ φ → B) : fork (decide φ) A B := by
  constructor <;> intro hh <;> simp_all
theorem fork_intro {p : Bool} {A B : Prop} (h : p = true → A) (h' : p = false → B) : fork p A B := ⟨h, h'⟩
theorem fork_pos {p : Bool} {A B : Prop} (h : p = true) : fork p A B = A := by rw [h, fork_true]
theorem fork_neg {p : Bool} {A B : Prop} (h : p = false) : fork p A B = B := by rw [h, fork_false]

theorem CW.mono {P : Program} {X : Ext} {f : FuncId} {args : List Value} {σ : Heap} {K K' : Value → Heap → Prop} (h : CW P X f args σ K) (hk : ∀ v σ', K v σ' → K' v σ') : CW P X f args σ K' := by
  obtain ⟨h1, v, σ', h2, h3⟩ := h
  exact ⟨h1, v, σ', h2, hk _ _ h3⟩
theorem WC.mono {P : Program} {X : Ext} {N : Nat} {c : Code} {T : Tm} {σ : Heap} {Q Q' : AExit → Tm → Heap → Prop} (h : WC P X N c T σ Q) (hk : ∀ e T' σ', Q e T' σ' → Q' e T' σ') : WC P X N c T σ Q' := by
  obtain ⟨e, T', σ', h2, h3⟩ := h
  exact ⟨e, T', σ', h2, hk _ _ _ h3⟩

/-- A loop: a number that falls from round to round, and what holds at the head. -/
theorem LW_ind {P : Program} {X : Ext} {N : Nat} {c : Code} {Q : AExit → Tm → Heap → Prop} (I : Nat → Tm → Heap → Prop)
    (h : ∀ k T σ, I k T σ → vc P X N c T σ fun e T' σ' => match e with | .normal => ∃ j, j < k ∧ I j T' σ' | e => Q e T' σ') : ∀ k T σ, I k T σ → LW P X N c T σ Q := by
  intro k T σ hI hd
  revert T σ
  induction k using Nat.strongRecOn with
  | _ k ih =>
    intro T σ hI
    obtain ⟨e, T', σ', h1, h2⟩ := vc_run hd (h k T σ hI)
    cases e with
    | normal =>
      obtain ⟨j, hj, h2⟩ := h2
      obtain ⟨e, T2, σ2, h3, h4⟩ := ih j hj T' σ' h2
      exact ⟨e, T2, σ2, .loopN h1 h3, h4⟩
    | exit id => exact ⟨_, _, _, .loopX h1 (by simp), h2⟩
    | ret => exact ⟨_, _, _, .loopX h1 (by simp), h2⟩

def rounds (I : Nat → Tm → Heap → Prop) (k : Nat) (Q : AExit → Tm → Heap → Prop) : AExit → Tm → Heap → Prop
  | .normal, T, σ => ∃ j, j < k ∧ I j T σ
  | e, T, σ => Q e T σ
theorem LW_run {P : Program} {X : Ext} {N : Nat} {c : Code} {Q : AExit → Tm → Heap → Prop} {T : Tm} {σ : Heap} (I : Nat → Tm → Heap → Prop) (k : Nat) (hI : I k T σ)
    (h : ∀ k T σ, I k T σ → vc P X N c T σ (rounds I k Q)) : LW P X N c T σ Q := by
  refine LW_ind I (fun k T σ hk => ?_) k T σ hI
  have := h k T σ hk
  have e : rounds I k Q = fun e T' σ' => (match e with | .normal => ∃ j, j < k ∧ I j T' σ' | e => Q e T' σ') := by
    funext e T σ
    cases e <;> rfl
  rw [e] at this
  exact this

def unroll (P : Program) (X : Ext) (N : Nat) (c : Code) (Q : AExit → Tm → Heap → Prop) : AExit → Tm → Heap → Prop
  | .normal, T, σ => LW P X N c T σ Q
  | e, T, σ => Q e T σ
/-- One round of a loop. -/
theorem LW_unroll {P : Program} {X : Ext} {N : Nat} {c : Code} {Q : AExit → Tm → Heap → Prop} {T : Tm} {σ : Heap} (h : vc P X N c T σ (unroll P X N c Q)) : LW P X N c T σ Q := fun hd => by
  obtain ⟨e, T', σ', h1, h2⟩ := vc_run hd h
  cases e with
  | normal =>
    obtain ⟨e, T2, σ2, h3, h4⟩ := h2 hd
    exact ⟨e, T2, σ2, .loopN h1 h3, h4⟩
  | exit id => exact ⟨_, _, _, .loopX h1 (by simp), h2⟩
  | ret => exact ⟨_, _, _, .loopX h1 (by simp), h2⟩

section
variable {P : Program} {X : Ext} {N : Nat} {T : Tm} {σ : Heap} {K : Value → Heap → Prop} {KT : Tm → Heap → Prop} {Q : AExit → Tm → Heap → Prop} {ops : Array Oper} {t : TypeId}
theorem v_skip : vc P X N .skip T σ Q = Q .normal T σ := eq_of_heq HEq.rfl
theorem v_exit {id : Nat} : vc P X N (.exit id) T σ Q = Q (.exit id) T σ := eq_of_heq HEq.rfl
theorem v_ret : vc P X N .ret T σ Q = Q .ret T σ := eq_of_heq HEq.rfl
/-- Behind the first part. -/
def after (P : Program) (X : Ext) (N : Nat) (b : Code) (Q : AExit → Tm → Heap → Prop) : AExit → Tm → Heap → Prop
  | .normal, T, σ => vc P X N b T σ Q
  | e, T, σ => Q e T σ
theorem v_seq {a b : Code} : vc P X N (.seq a b) T σ Q = vc P X N a T σ (after P X N b Q) := by
  show vc P X N a T σ _ = _
  congr 1
  funext e T σ
  cases e <;> rfl
theorem after_normal {b : Code} : after P X N b Q .normal T σ = vc P X N b T σ Q := eq_of_heq HEq.rfl
theorem after_ret {b : Code} : after P X N b Q .ret T σ = Q .ret T σ := eq_of_heq HEq.rfl
theorem after_exit {b : Code} {id : Nat} : after P X N b Q (.exit id) T σ = Q (.exit id) T σ := eq_of_heq HEq.rfl
/-- A function's end. -/
def ends (P : Program) (rs : List ResultVar) (K : Value → Heap → Prop) : AExit → Tm → Heap → Prop
  | .exit _, _, _ => False
  | _, T, σ => thus (aresults P T σ rs) fun v => K v σ
theorem ends_normal {rs : List ResultVar} : ends P rs K .normal T σ = thus (aresults P T σ rs) fun v => K v σ := eq_of_heq HEq.rfl
theorem ends_ret {rs : List ResultVar} : ends P rs K .ret T σ = thus (aresults P T σ rs) fun v => K v σ := eq_of_heq HEq.rfl
theorem ends_r0 : aresults P T σ [] = some (.tuple #[]) := eq_of_heq HEq.rfl
theorem ends_r1 {a : Tmp} : aresults P T σ [.tmp a] = some (T a) := eq_of_heq HEq.rfl
theorem ends_r2 {a b : Tmp} : aresults P T σ [.tmp a, .tmp b] = some (.tuple #[T a, T b]) := eq_of_heq HEq.rfl
theorem ends_r3 {a b c : Tmp} : aresults P T σ [.tmp a, .tmp b, .tmp c] = some (.tuple #[T a, T b, T c]) := eq_of_heq HEq.rfl
theorem ends_r4 {a b c d : Tmp} : aresults P T σ [.tmp a, .tmp b, .tmp c, .tmp d] = some (.tuple #[T a, T b, T c, T d]) := eq_of_heq HEq.rfl
theorem ends_c1 {a : Tmp} {t : TypeId} : aresults P T σ [.cell a t] = aload P σ t (T a) := by
  simp only [aresults, List.mapM_cons, List.mapM_nil, aresult]
  cases aload P σ t (T a) <;> rfl
theorem ends_tc {a b : Tmp} {t : TypeId} : aresults P T σ [.tmp a, .cell b t] = (aload P σ t (T b)).map fun v => .tuple #[T a, v] := by
  simp only [aresults, List.mapM_cons, List.mapM_nil, aresult]
  cases aload P σ t (T b) <;> rfl
theorem ends_ttc {a b c : Tmp} {t : TypeId} : aresults P T σ [.tmp a, .tmp b, .cell c t] = (aload P σ t (T c)).map fun v => .tuple #[T a, T b, v] := by
  simp only [aresults, List.mapM_cons, List.mapM_nil, aresult]
  cases aload P σ t (T c) <;> rfl
theorem cw_in {f : FuncId} {fn : Func} {c : Code} {N : Nat} {rs : List ResultVar} {args : List Value} (hf : P.funcs[f]? = some fn) (hb : fn.body = some c) (hN : fn.ntmps = N) (hr : fn.results.toList = rs) (hst : (enterable P f && okCode fn.ntmps c && fn.results.all (okRes fn.ntmps) && okDraws c) = true) (hn : args.length ≤ N)
    (h : vc P X N c (fun t => args.getD t undef) σ (ends P rs K)) : CW P X f args σ K := by
  subst hN; subst hr
  simp only [Bool.and_eq_true] at hst
  obtain ⟨hst, hd⟩ := hst
  obtain ⟨e, T', σ', h1, h2⟩ := vc_run hd h
  refine ⟨hst.1.1, ?_⟩
  cases e with
  | exit id => exact h2.elim
  | normal =>
    obtain ⟨v, h3, h4⟩ := h2
    exact ⟨v, σ', .call hf hb hst.1.2 hst.2 hn h1 (.inl rfl) h3, h4⟩
  | ret =>
    obtain ⟨v, h3, h4⟩ := h2
    exact ⟨v, σ', .call hf hb hst.1.2 hst.2 hn h1 (.inr rfl) h3, h4⟩
theorem rounds_normal {I : Nat → Tm → Heap → Prop} {k : Nat} : rounds I k Q .normal T σ = ∃ j, j < k ∧ I j T σ := eq_of_heq HEq.rfl
theorem rounds_ret {I : Nat → Tm → Heap → Prop} {k : Nat} : rounds I k Q .ret T σ = Q .ret T σ := eq_of_heq HEq.rfl
theorem rounds_exit {I : Nat → Tm → Heap → Prop} {k id : Nat} : rounds I k Q (.exit id) T σ = Q (.exit id) T σ := eq_of_heq HEq.rfl
theorem unroll_normal {c : Code} : unroll P X N c Q .normal T σ = LW P X N c T σ Q := eq_of_heq HEq.rfl
theorem unroll_ret {c : Code} : unroll P X N c Q .ret T σ = Q .ret T σ := eq_of_heq HEq.rfl
theorem unroll_exit {c : Code} {id : Nat} : unroll P X N c Q (.exit id) T σ = Q (.exit id) T σ := eq_of_heq HEq.rfl
theorem v_cond {c : Operand} {x y : Code} : vc P X N (.cond c x y) T σ Q = onBool (aev P T c) fun t => fork t (vc P X N x T σ Q) (vc P X N y T σ Q) := eq_of_heq HEq.rfl
def leaves (id : Nat) (Q : AExit → Tm → Heap → Prop) : AExit → Tm → Heap → Prop := fun e => Q (e.leave id)
theorem v_block {id : Nat} {c : Code} : vc P X N (.block id c) T σ Q = vc P X N c T σ (leaves id Q) := eq_of_heq HEq.rfl
theorem leaves_normal {id : Nat} : leaves id Q .normal T σ = Q .normal T σ := eq_of_heq HEq.rfl
theorem leaves_ret {id : Nat} : leaves id Q .ret T σ = Q .ret T σ := eq_of_heq HEq.rfl
theorem leaves_exit {id i : Nat} : leaves id Q (.exit i) T σ = if i = id then Q .normal T σ else Q (.exit i) T σ := by
  simp only [leaves, AExit.leave]
  split <;> rfl
theorem v_loop {c : Code} : vc P X N (.loop c) T σ Q = LW P X N c T σ Q := eq_of_heq HEq.rfl
theorem v_region {id : Nat} {ops : Array Oper} : vc P X N (.region id ops false) T σ Q = vcOps P X ops ops.toList T σ (Q .normal) := eq_of_heq HEq.rfl
theorem v_draw {id : Nat} {ops : Array Oper} : vc P X N (.region id ops true) T σ Q = vcDraw P X ops 0 ops.toList T σ (Q .normal) := eq_of_heq HEq.rfl
theorem v_nil : vcOps P X ops [] T σ KT = KT T σ := eq_of_heq HEq.rfl
theorem v_cons {o : Oper} {l : List Oper} : vcOps P X ops (o :: l) T σ KT = vcStep P X ops o T σ fun T' σ' => vcOps P X ops l T' σ' KT := eq_of_heq HEq.rfl
theorem v_dnil {k : Nat} : vcDraw P X ops k [] T σ KT = KT T σ := eq_of_heq HEq.rfl
theorem v_dcons {k : Nat} {o : Oper} {l : List Oper} : vcDraw P X ops k (o :: l) T σ KT = vcStep P X ops o T σ fun T' σ' => Quiet P o ops k T σ σ' ∧ vcDraw P X ops (k + 1) l T' σ' KT := eq_of_heq HEq.rfl
theorem v_step {dst : Option Tmp} {op : Op} {ty : TypeId} {pos : String} {aft : Array Edge} : vcStep P X ops ⟨dst, op, ty, pos, aft, none⟩ T σ KT = vcOp P X op T σ fun v σ' => KT (putT T dst v) σ' := by simp [vcStep, awanted, thus]
/-- The test of a guard. -/
def guards (v : Value) (want : Bool) (A B : Prop) : Prop := thus (match v with | .bool b => some (b == want) | .tuple vs => if vs.size = 0 then some false else none | _ => none) fun b => fork b A B
theorem guards_congr {v v' : Value} {w : Bool} {A B : Prop} (h : here v = v') : guards v w A B = guards v' w A B := by rw [← h]; rfl
theorem guards_t {b : Bool} {A B : Prop} : guards (.bool b) true A B = fork b A B := by simp [guards, thus]
theorem guards_f {b : Bool} {A B : Prop} : guards (.bool b) false A B = fork b B A := by cases b <;> simp [guards, thus, fork]
theorem guards_undef {w : Bool} {A B : Prop} : guards undef w A B = B := by simp [guards, thus, fork, undef]
def gdl : List Oper → Nat → Option Tmp
  | [], _ => none
  | o :: _, 0 => o.dst
  | _ :: l, j + 1 => gdl l j
def gdst (ops : Array Oper) (j : Nat) : Option Tmp := gdl ops.toList j
theorem gdl_eq : ∀ (l : List Oper) (j : Nat), gdl l j = (l[j]?).bind (·.dst)
  | [], _ => by simp [gdl]
  | o :: _, 0 => rfl
  | _ :: l, j + 1 => by simp [gdl, gdl_eq l j]
theorem gdst_to {l : List Oper} {j : Nat} : gdst l.toArray j = gdl l j := eq_of_heq HEq.rfl
theorem gdl_zero {o : Oper} {l : List Oper} : gdl (o :: l) 0 = o.dst := eq_of_heq HEq.rfl
theorem gdl_succ {o : Oper} {l : List Oper} {j : Nat} : gdl (o :: l) (j + 1) = gdl l j := eq_of_heq HEq.rfl
def guarded (d : Option Tmp) (T : Tm) (want : Bool) (A B : Prop) : Prop := match d with
  | none => B
  | some d => guards (T d) want A B
theorem guarded_congr {d d' : Option Tmp} {T : Tm} {w : Bool} {A B : Prop} (h : here d = d') : guarded d T w A B = guarded d' T w A B := by rw [← h]; rfl
theorem guarded_some {d : Tmp} {w : Bool} {A B : Prop} : guarded (some d) T w A B = guards (T d) w A B := eq_of_heq HEq.rfl
theorem v_stepg {dst : Option Tmp} {op : Op} {ty : TypeId} {pos : String} {aft : Array Edge} {j : Nat} {want : Bool} : vcStep P X ops ⟨dst, op, ty, pos, aft, some (j, want)⟩ T σ KT =
    guarded (gdst ops j) T want (vcOp P X op T σ fun v σ' => KT (putT T dst v) σ') (KT (putT T dst undef) σ) := by
  simp only [vcStep, awanted, guarded, gdst, gdl_eq, Array.getElem?_toList]
  cases hd : (ops[j]?).bind (·.dst) with
  | none => simp [thus]
  | some d =>
    simp only [guards]
    congr 1
    funext b
    cases b <;> simp [fork]

theorem quiet_same {o : Oper} {k : Nat} : Quiet P o ops k T σ σ = True := by simp [Quiet, Side]
theorem quiet_app {o : Oper} {k : Nat} {l : Heap} : Quiet P o ops k T σ (σ ++ l) = True := by simp [Quiet, Side]
theorem quiet_app2 {o : Oper} {k : Nat} {l l' : Heap} : Quiet P o ops k T (σ ++ l) (σ ++ (l ++ l')) = True := by
  simp only [Quiet, Side, eq_iff_iff, iff_true]
  exact .inr (.inl (.inl ⟨l', by simp⟩))
theorem quiet_cons {o : Oper} {k : Nat} {b : Option Blk} {l l' : Heap} : Quiet P o ops k T (σ ++ b :: l) (σ ++ b :: (l ++ l')) = True := by
  simp only [Quiet, Side, eq_iff_iff, iff_true]
  exact .inr (.inl (.inl ⟨l', by simp⟩))
theorem quiet_free {k : Nat} {dst : Option Tmp} {op : Op} {ty : TypeId} {pos : String} {aft : Array Edge} {g : Option (Nat × Bool)} {σ' : Heap} (h : heapFree op = true) : Quiet P ⟨dst, op, ty, pos, aft, g⟩ ops k T σ σ' = True := by simp [Quiet, h]
theorem quiet_look {o : Oper} {k : Nat} (h : loudOk ops k = true) {σ' : Heap} : Quiet P o ops k T σ σ' := .inr (.inl (.inr h))
theorem Quiet_congr {o : Oper} {k : Nat} {σ1 σ1' σ2 σ2' : Heap} (h : here σ1 = σ2) (h' : here σ1' = σ2') : Quiet P o ops k T σ1 σ1' = Quiet P o ops k T σ2 σ2' := by rw [← h, ← h']; rfl
/-! ### operations -/
theorem o_move {x : Operand} : vcOp P X (.move x) T σ K = thus (some (aev P T x)) fun v => K v σ := by simp [vcOp, aop, thus]
theorem o_assign {x : Operand} : vcOp P X (.assign x) T σ K = thus (some (aev P T x)) fun v => K v σ := by simp [vcOp, aop, thus]
theorem o_load {t : TypeId} {a : Operand} : vcOp P X (.load t a) T σ K = thus (aload P σ t (aev P T a)) fun v => K v σ := by simp [vcOp, aop, thus_map]
theorem o_store {t : TypeId} {a x : Operand} : vcOp P X (.store t a x) T σ K = thus (astore P σ t (aev P T a) (aev P T x)) fun σ' => K undef σ' := by simp [vcOp, aop, thus_map]
theorem o_fieldAddr {t : TypeId} {a : Operand} {i : Nat} : vcOp P X (.fieldAddr t a i) T σ K = thus (afieldAddr P t (aev P T a) i) fun v => K v σ := by simp [vcOp, aop, thus_map]
theorem o_field {t : TypeId} {a : Operand} {i : Nat} : vcOp P X (.field t a i) T σ K = thus (afield P t (aev P T a) i) fun v => K v σ := by simp [vcOp, aop, thus_map]
theorem o_indexAddr {t : TypeId} {a i : Operand} : vcOp P X (.indexAddr t a i) T σ K = thus (aindexAddr P t (aev P T a) (aev P T i)) fun v => K v σ := by simp [vcOp, aop, thus_map]
theorem o_index {t : TypeId} {a i : Operand} : vcOp P X (.index t a i) T σ K = thus (aindex P t (aev P T a) (aev P T i)) fun v => K v σ := by simp [vcOp, aop, thus_map]
theorem o_extract {a : Operand} {i : Nat} : vcOp P X (.extract a i) T σ K = thus (aextract (aev P T a) i) fun v => K v σ := by simp [vcOp, aop, thus_map]
theorem o_nilCheck {a : Operand} : vcOp P X (.nilCheck a) T σ K = thus (anilCheck (aev P T a)) fun v => K v σ := by simp [vcOp, aop, thus_map]
theorem o_unOp {op : UnOp} {t : TypeId} {a : Operand} : vcOp P X (.unOp op t a) T σ K = thus (aunary op (aev P T a)) fun v => K v σ := by simp [vcOp, aop, thus_map]
theorem o_convert {s d : TypeId} {a : Operand} : vcOp P X (.convert s d a) T σ K = thus (aconvert P s d (aev P T a)) fun v => K v σ := by simp [vcOp, aop, thus_map]
theorem o_makeInterface {t : TypeId} {a : Operand} : vcOp P X (.makeInterface t a) T σ K = thus (amakeInterface P t (aev P T a)) fun v => K v σ := by simp [vcOp, aop, thus_map]
theorem o_slice {t : TypeId} {a : Operand} {lo hi mx : Option Operand} : vcOp P X (.slice t a lo hi mx) T σ K = thus (aslice P σ t (aev P T a) (lo.map (aev P T)) (hi.map (aev P T)) (mx.map (aev P T))) fun v => K v σ := by simp [vcOp, aop, thus_map]
theorem o_makeSlice {t : TypeId} {n m : Operand} : vcOp P X (.makeSlice t n m) T σ K = thus2 (amakeSlice P σ t (aev P T n) (aev P T m)) K := by rw [← thus2_eq]; simp [vcOp, aop]
theorem o_build {t : TypeId} {parts : Array (Nat × Operand)} : vcOp P X (.build t parts) T σ K = thus (abuild P t (parts.toList.map fun p => (p.1, aev P T p.2))) fun v => K v σ := by simp [vcOp, aop, thus_map]
theorem o_buildSlice {t : TypeId} {len : Nat} {parts : Array (Nat × Operand)} : vcOp P X (.buildSlice t len parts) T σ K = thus2 (abuildSlice P σ t len (parts.toList.map fun p => (p.1, aev P T p.2))) K := by rw [← thus2_eq]; simp [vcOp, aop]
theorem o_makeFunc {f : Fn} {a b : Array Operand} : vcOp P X (.makeFunc f a b) T σ K = thus (some (Value.func f (a.map (aev P T)) (b.map (aev P T)))) fun v => K v σ := by simp [vcOp, aop, thus]
theorem o_len {as : Array Operand} {ts : Array TypeId} : vcOp P X (.call ⟨.builtin .len, as, ts⟩) T σ K = thus (alen P ts (as.toList.map (aev P T))) fun v => K v σ := by simp [vcOp, aop, thus_map]
theorem o_append {s x : Operand} {ts : Array TypeId} : vcOp P X (.call ⟨.builtin .append, #[s, x], ts⟩) T σ K = thus2 (aappend P σ ts (aev P T s) (aev P T x)) K := by rw [← thus2_eq]; simp [vcOp, aop]
theorem o_call {g : FuncId} {as : Array Operand} {ts : Array TypeId} : vcOp P X (.call ⟨.value (.func g), as, ts⟩) T σ K = CW P X g (as.toList.map (aev P T)) σ K := by simp [vcOp, acallee, aev, thus]
/-- A call of what stands in a temporary. -/
theorem o_callv {t : Tmp} {g : FuncId} {as a b : Array Operand} {ts : Array TypeId} {va vb : Array Value} (h : T t = .func (.func g) va vb) : vcOp P X (.call ⟨.value (.tmp t), as, ts⟩) T σ K = CW P X g (va.toList ++ as.toList.map (aev P T) ++ vb.toList) σ K := by simp [vcOp, acallee, aev, thus, h]
theorem ite_thus {α : Type} {φ : Prop} [Decidable φ] {o : Option α} {K : α → Prop} : thus (if φ then o else none) K = (φ ∧ thus o K) := by
  by_cases h : φ <;> simp [h, thus]
theorem o_box {t : TypeId} {a : Operand} : vcOp P X (.box t a) T σ K = thus (if lone (aev P T a) = true then some (cl (aev P T a)) else none) fun cs => thus2 (some (newPtr σ, σ ++ [some ⟨cs, true, 0⟩])) K := by
  simp only [vcOp, aop, lone_eq, cl]
  split
  · simp [thus, thus2_some]
  · simp [thus, thus2_some]
def azero (P : Program) (t : TypeId) : Option (List Value) := if (P.info? t).isSome = true then (tzero P t).bind fun z => if z.cells.all scal = true then some z.cells.toList else none else none
theorem o_alloc {t : TypeId} : vcOp P X (.alloc t) T σ K = thus (azero P t) fun cs => thus2 (some (newPtr σ, σ ++ [some ⟨cs, true, 0⟩])) K := by
  simp only [vcOp, aop, azero]
  split
  · cases tzero P t with
    | none => simp [thus, thus2_some]
    | some z =>
      simp only [Option.bind_some]
      split <;> simp [thus, thus2_some]
  · simp [thus, thus2_some]
theorem o_pick {c a b : Operand} : vcOp P X (.pick c a b) T σ K = onBool (aev P T c) fun t => thus (some (bif t then aev P T a else aev P T b)) fun v => K v σ := by
  simp only [vcOp, aop]
  split
  · rename_i t h
    rw [h]
    cases t <;> simp [thus, onBool]
  · rename_i h
    simp only [thus, onBool]
    apply propext
    constructor
    · rintro ⟨_, h2, _⟩
      simp at h2
    · rintro ⟨t, h2, _⟩
      exact absurd h2 (h t)
theorem o_bin {op : BinOp} {t u : TypeId} {x y : Operand} : vcOp P X (.binOp op t x y u) T σ K = thus (if aguard P op t x y (aev P T x) (aev P T y) = true then abin P op t (aev P T x) (aev P T y) else none) fun v => K v σ := by
  simp only [vcOp, aop]
  split
  · rw [thus_map]
  · simp [thus]

/-! ### values -/
theorem e_tmp {t : Tmp} : aev P T (.tmp t) = T t := eq_of_heq HEq.rfl
theorem e_int {k : IntKind} {n : Int} : aev P T (.const (.int k n)) = .int k n := eq_of_heq HEq.rfl
theorem e_bool {b : Bool} : aev P T (.const (.bool b)) = .bool b := eq_of_heq HEq.rfl
theorem e_string {b : ByteArray} : aev P T (.const (.string b)) = .string b := eq_of_heq HEq.rfl
theorem e_slice : aev P T (.const (.slice none 0 0)) = .slice none 0 0 := eq_of_heq HEq.rfl
theorem e_pnil : aev P T (.const (.pointer none)) = .pointer none := eq_of_heq HEq.rfl
theorem e_inil : aev P T (.const .nilIface) = .nilIface := eq_of_heq HEq.rfl
theorem e_func {f : FuncId} : aev P T (.func f) = .func (.func f) #[] #[] := eq_of_heq HEq.rfl
theorem put_get {d t : Tmp} {v : Value} : putT T (some d) v t = if t = d then v else T t := eq_of_heq HEq.rfl
theorem put_none {v : Value} : putT T none v = T := eq_of_heq HEq.rfl
theorem i_add {k : IntKind} {a b : Int} : abin P .add t (.int k a) (.int k b) = some (.int k (k.wrap (a + b))) := by simp [abin, aintOp]
theorem i_sub {k : IntKind} {a b : Int} : abin P .sub t (.int k a) (.int k b) = some (.int k (k.wrap (a - b))) := by simp [abin, aintOp]
theorem i_mul {k : IntKind} {a b : Int} : abin P .mul t (.int k a) (.int k b) = some (.int k (k.wrap (a * b))) := by simp [abin, aintOp]
theorem i_quo {k : IntKind} {a b : Int} (h : b ≠ 0) : abin P .quo t (.int k a) (.int k b) = some (.int k (k.wrap (a.tdiv b))) := by simp [abin, aintOp, h]
theorem i_rem {k : IntKind} {a b : Int} (h : b ≠ 0) : abin P .rem t (.int k a) (.int k b) = some (.int k (a.tmod b)) := by simp [abin, aintOp, h]
theorem i_and {k : IntKind} {a b : Int} : abin P .and t (.int k a) (.int k b) = some (.int k (Go.bits .and k a b)) := by simp [abin, aintOp]
theorem i_or {k : IntKind} {a b : Int} : abin P .or t (.int k a) (.int k b) = some (.int k (Go.bits .or k a b)) := by simp [abin, aintOp]
theorem i_xor {k : IntKind} {a b : Int} : abin P .xor t (.int k a) (.int k b) = some (.int k (Go.bits .xor k a b)) := by simp [abin, aintOp]
theorem i_shl {k k' : IntKind} {a b : Int} (h : 0 ≤ b) : abin P .shl t (.int k a) (.int k' b) = some (.int k (k.wrap (a * 2 ^ (min b.toNat k.bits)))) := by simp [abin, aintOp, Int.not_lt.2 h]
theorem i_shr {k k' : IntKind} {a b : Int} (h : 0 ≤ b) : abin P .shr t (.int k a) (.int k' b) = some (.int k (a.fdiv (2 ^ (min b.toNat k.bits)))) := by simp [abin, aintOp, Int.not_lt.2 h]
theorem i_eql {k : IntKind} {a b : Int} : abin P .eql t (.int k a) (.int k b) = some (.bool (decide (a = b))) := by simp [abin, aintOp]
theorem i_neq {k : IntKind} {a b : Int} : abin P .neq t (.int k a) (.int k b) = some (.bool (decide (a ≠ b))) := by simp [abin, aintOp]
theorem i_lss {k : IntKind} {a b : Int} : abin P .lss t (.int k a) (.int k b) = some (.bool (decide (a < b))) := by simp [abin, aintOp]
theorem i_leq {k : IntKind} {a b : Int} : abin P .leq t (.int k a) (.int k b) = some (.bool (decide (a ≤ b))) := by simp [abin, aintOp]
theorem i_gtr {k : IntKind} {a b : Int} : abin P .gtr t (.int k a) (.int k b) = some (.bool (decide (b < a))) := by simp [abin, aintOp]
theorem i_geq {k : IntKind} {a b : Int} : abin P .geq t (.int k a) (.int k b) = some (.bool (decide (b ≤ a))) := by simp [abin, aintOp]
theorem s_add {a b : ByteArray} (h : ((a.size + b.size : Nat) : Int) ≤ 9223372036854775807) : abin P .add t (.string a) (.string b) = some (.string (a ++ b)) := by simp [abin, astrOp]; omega
theorem s_eql {a b : ByteArray} : abin P .eql t (.string a) (.string b) = some (.bool (decide (a = b))) := eq_of_heq HEq.rfl
theorem s_neq {a b : ByteArray} : abin P .neq t (.string a) (.string b) = some (.bool (decide (a ≠ b))) := eq_of_heq HEq.rfl
theorem g_lss {x y : Operand} {a b : Value} : aguard P .lss t x y a b = true := eq_of_heq HEq.rfl
theorem g_leq {x y : Operand} {a b : Value} : aguard P .leq t x y a b = true := eq_of_heq HEq.rfl
theorem g_gtr {x y : Operand} {a b : Value} : aguard P .gtr t x y a b = true := eq_of_heq HEq.rfl
theorem g_geq {x y : Operand} {a b : Value} : aguard P .geq t x y a b = true := eq_of_heq HEq.rfl
theorem g_add {x y : Operand} {a b : Value} : aguard P .add t x y a b = true := eq_of_heq HEq.rfl
theorem g_sub {x y : Operand} {a b : Value} : aguard P .sub t x y a b = true := eq_of_heq HEq.rfl
theorem g_mul {x y : Operand} {a b : Value} : aguard P .mul t x y a b = true := eq_of_heq HEq.rfl
theorem g_quo {x y : Operand} {a b : Value} : aguard P .quo t x y a b = true := eq_of_heq HEq.rfl
theorem g_rem {x y : Operand} {a b : Value} : aguard P .rem t x y a b = true := eq_of_heq HEq.rfl
theorem g_and {x y : Operand} {a b : Value} : aguard P .and t x y a b = true := eq_of_heq HEq.rfl
theorem g_or {x y : Operand} {a b : Value} : aguard P .or t x y a b = true := eq_of_heq HEq.rfl
theorem g_xor {x y : Operand} {a b : Value} : aguard P .xor t x y a b = true := eq_of_heq HEq.rfl
theorem g_shl {x y : Operand} {a b : Value} : aguard P .shl t x y a b = true := eq_of_heq HEq.rfl
theorem g_shr {x y : Operand} {a b : Value} : aguard P .shr t x y a b = true := eq_of_heq HEq.rfl
theorem g_eqI {x y : Operand} {k k' : IntKind} {a b : Int} : aguard P .eql t x y (.int k a) (.int k' b) = true := eq_of_heq HEq.rfl
theorem g_neI {x y : Operand} {k k' : IntKind} {a b : Int} : aguard P .neq t x y (.int k a) (.int k' b) = true := eq_of_heq HEq.rfl
theorem g_eqS {x y : Operand} {a b : ByteArray} : aguard P .eql t x y (.string a) (.string b) = true := eq_of_heq HEq.rfl
theorem g_neS {x y : Operand} {a b : ByteArray} : aguard P .neq t x y (.string a) (.string b) = true := eq_of_heq HEq.rfl
theorem g_eqB {x y : Operand} {a b : Bool} : aguard P .eql t x y (.bool a) (.bool b) = true := eq_of_heq HEq.rfl
theorem g_neB {x y : Operand} {a b : Bool} : aguard P .neq t x y (.bool a) (.bool b) = true := eq_of_heq HEq.rfl
theorem not_bool {b : Bool} : aunary .not (.bool b) = some (.bool !b) := eq_of_heq HEq.rfl
theorem neg_int {k : IntKind} {n : Int} : aunary .neg (.int k n) = some (.int k (k.wrap (0 - n))) := eq_of_heq HEq.rfl
theorem if_true_some {α : Type} {φ : Prop} [Decidable φ] (h : φ) (a b : α) : (if φ then a else b) = a := if_pos h
theorem x_tuple0 {a b : Value} {l : List Value} : aextract (.tuple (a :: b :: l).toArray) 0 = some a := by simp [aextract]
theorem x_tuple1 {a b : Value} {l : List Value} : aextract (.tuple (a :: b :: l).toArray) 1 = some b := by simp [aextract]
theorem x_tuple2 {a b c : Value} {l : List Value} : aextract (.tuple (a :: b :: c :: l).toArray) 2 = some c := by simp [aextract]
theorem x_tuple3 {a b c d : Value} {l : List Value} : aextract (.tuple (a :: b :: c :: d :: l).toArray) 3 = some d := by simp [aextract]
theorem n_ptr {a : Addr} : anilCheck (.pointer (some a)) = some (.pointer (some a)) := eq_of_heq HEq.rfl

/-! ### memory -/
theorem look_app_lt {σ l : Heap} {n : Nat} (h : n < σ.length) : look (σ ++ l) n = look σ n := by
  unfold look
  rw [List.getElem?_append_left h]
theorem look_app_ge {σ l : Heap} {n : Nat} (h : σ.length ≤ n) : look (σ ++ l) n = look l (n - σ.length) := by
  unfold look
  rw [List.getElem?_append_right h]
theorem look_app_new {σ l : Heap} : look (σ ++ l) σ.length = look l 0 := by rw [look_app_ge (Nat.le_refl _), Nat.sub_self]
theorem look_app_add {σ l : Heap} {i : Nat} : look (σ ++ l) (σ.length + i) = look l i := by rw [look_app_ge (Nat.le_add_right _ _), Nat.add_sub_cancel_left]
theorem look_app_at {σ l : Heap} {n i : Nat} (h : n = σ.length + i) : look (σ ++ l) n = look l i := by rw [h, look_app_add]
theorem look_zero {b : Option Blk} {l : Heap} : look (b :: l) 0 = b := by cases b <;> rfl
theorem look_succ {b : Option Blk} {l : Heap} {i : Nat} : look (b :: l) (i + 1) = look l i := eq_of_heq HEq.rfl
theorem look_set {σ : Heap} {n m : Nat} {b : Option Blk} (h : n < σ.length) : look (σ.set n b) m = if m = n then b else look σ m := by
  unfold look
  rw [List.getElem?_set]
  by_cases hm : m = n
  · subst hm
    simp [h]
  · simp [hm, Ne.symm hm]
theorem set_app_lt {σ l : Heap} {n : Nat} {b : Option Blk} (h : n < σ.length) : (σ ++ l).set n b = σ.set n b ++ l := by
  rw [List.set_append_left _ _ h]
theorem set_app_new {σ l : Heap} {b : Option Blk} : (σ ++ l).set σ.length b = σ ++ l.set 0 b := by
  rw [List.set_append_right _ _ (Nat.le_refl _), Nat.sub_self]
theorem set_app_add {σ l : Heap} {i : Nat} {b : Option Blk} : (σ ++ l).set (σ.length + i) b = σ ++ l.set i b := by
  rw [List.set_append_right _ _ (Nat.le_add_right _ _), Nat.add_sub_cancel_left]
theorem c_agg {cs : List Value} : cl (.agg cs.toArray) = cs := eq_of_heq HEq.rfl
theorem c_int {k : IntKind} {n : Int} : cl (Value.int k n) = [.int k n] := eq_of_heq HEq.rfl
theorem c_bool {b : Bool} : cl (Value.bool b) = [.bool b] := eq_of_heq HEq.rfl
theorem c_string {b : ByteArray} : cl (Value.string b) = [.string b] := eq_of_heq HEq.rfl
theorem c_ptr {a : Option Addr} : cl (Value.pointer a) = [.pointer a] := eq_of_heq HEq.rfl
theorem c_slice {a : Option Addr} {n m : Nat} : cl (Value.slice a n m) = [.slice a n m] := eq_of_heq HEq.rfl
theorem c_inil : cl .nilIface = [.nilIface] := eq_of_heq HEq.rfl
theorem c_iface {t : TypeId} {v : Value} : cl (Value.iface t v) = [.iface t v] := eq_of_heq HEq.rfl
theorem c_func {f : Fn} {a b : Array Value} : cl (Value.func f a b) = [.func f a b] := eq_of_heq HEq.rfl
theorem l_agg {cs : List Value} : lone (.agg cs.toArray) = cs.all (·.oneCell') := eq_of_heq HEq.rfl
theorem k_int {k : IntKind} {n : Int} : (Value.int k n).oneCell' = true := eq_of_heq HEq.rfl
theorem k_bool {b : Bool} : (Value.bool b).oneCell' = true := eq_of_heq HEq.rfl
theorem k_string {b : ByteArray} : (Value.string b).oneCell' = true := eq_of_heq HEq.rfl
theorem k_ptr {a : Option Addr} : (Value.pointer a).oneCell' = true := eq_of_heq HEq.rfl
theorem k_slice {a : Option Addr} {n m : Nat} : (Value.slice a n m).oneCell' = true := eq_of_heq HEq.rfl
theorem k_inil : Value.nilIface.oneCell' = true := eq_of_heq HEq.rfl
theorem k_iface {t : TypeId} {v : Value} : (Value.iface t v).oneCell' = true := eq_of_heq HEq.rfl
theorem k_func {f : Fn} {a b : Array Value} : (Value.func f a b).oneCell' = true := eq_of_heq HEq.rfl
theorem l_int {k : IntKind} {n : Int} : lone (Value.int k n) = true := eq_of_heq HEq.rfl
theorem l_bool {b : Bool} : lone (Value.bool b) = true := eq_of_heq HEq.rfl
theorem l_string {b : ByteArray} : lone (Value.string b) = true := eq_of_heq HEq.rfl
theorem l_ptr {a : Option Addr} : lone (Value.pointer a) = true := eq_of_heq HEq.rfl
theorem l_slice {a : Option Addr} {n m : Nat} : lone (Value.slice a n m) = true := eq_of_heq HEq.rfl
theorem l_inil : lone Value.nilIface = true := eq_of_heq HEq.rfl
theorem l_iface {t : TypeId} {v : Value} : lone (Value.iface t v) = true := eq_of_heq HEq.rfl
theorem l_func {f : Fn} {a b : Array Value} : lone (Value.func f a b) = true := eq_of_heq HEq.rfl
theorem wrap64 {n : Int} (h : -9223372036854775808 ≤ n ∧ n ≤ 9223372036854775807) : IntKind.i64.wrap n = n := IntWalk.i64_in n h
end
attribute [congr] thus_congr thus2_congr fork_congr onBool_congr CW_congr LW_congr guards_congr guarded_congr Quiet_congr
attribute [go_sem ↓] here_eq v_skip v_exit v_ret v_seq after_normal after_ret after_exit v_cond v_block leaves_normal leaves_ret rounds_normal rounds_ret rounds_exit unroll_normal unroll_ret unroll_exit ends_normal ends_ret ends_r0 ends_r1 ends_r2 ends_r3 ends_r4 ends_c1 ends_tc ends_ttc leaves_exit v_loop v_region v_draw v_nil v_cons v_dnil v_dcons v_step gdst_to gdl_zero gdl_succ guarded_some v_stepg o_move o_assign o_load o_store o_fieldAddr o_field o_indexAddr o_index o_extract o_nilCheck o_unOp o_convert o_makeInterface o_slice o_makeSlice o_build o_buildSlice o_makeFunc o_len o_append o_call o_box o_alloc o_pick o_bin e_tmp e_int e_bool e_string e_slice e_pnil e_inil e_func put_get put_none
attribute [go_sem] quiet_same quiet_app quiet_app2 quiet_cons wrap64 fork_true fork_false onBool_bool thus_some thus2_some thus_map guards_t guards_f guards_undef not_bool neg_int x_tuple0 x_tuple1 x_tuple2 x_tuple3 n_ptr look_app_new look_app_add look_zero look_succ set_app_new set_app_add i_add i_sub i_mul i_and i_or i_xor i_eql i_neq i_lss i_leq i_gtr i_geq s_eql s_neq g_lss g_leq g_gtr g_geq g_add g_sub g_mul g_quo g_rem g_and g_or g_xor g_shl g_shr g_eqI g_neI g_eqS g_neS g_eqB g_neB
attribute [go_sem] l_agg k_int k_bool k_string k_ptr k_slice k_inil k_iface k_func c_agg c_int c_bool c_string c_ptr c_slice c_inil c_iface c_func l_int l_bool l_string l_ptr l_slice l_inil l_iface l_func newPtr Nat.zero_add List.all_toArray List.all_cons List.all_nil Bool.and_true Bool.true_and if_true if_false decide_true decide_false and_self and_true true_and List.toList_toArray List.size_toArray Nat.le_refl Nat.sub_self Nat.zero_lt_succ Nat.add_zero Option.bind_none Int.toNat_natCast Int.natCast_nonneg Bool.or_false Bool.false_or Bool.or_true Bool.true_or Bool.and_false Bool.false_and not_true_eq_false not_false_eq_true ne_eq List.map_cons List.map_nil List.length_cons List.length_nil List.set_cons_zero List.set_cons_succ List.getElem?_cons_zero List.getElem?_cons_succ Option.bind_some Option.map_some Option.map_none List.nil_append List.cons_append Bool.not_true Bool.not_false cond_true cond_false List.append_assoc List.length_append List.getD_cons_zero List.getD_cons_succ Option.getD_some
end Go.Proofs.YtkgdkommahgakaaDoor.Abs

/- The abstract machine: what its operations do at a type of which the table tells this and that. -/
namespace Go.Proofs.YtkgdkommahgakaaDoor.Abs
open Go Go.RowKit
set_option linter.unusedVariables false
set_option linter.unusedSimpArgs false

section
variable (P : Program)
/-- A slice type: cells and bytes of an element, its zero. -/
def sspec (t : TypeId) : Option (Nat × Nat × List Value) := match P.underlying t with
  | some (.slice e) => if (P.info? e).isSome = true then (tzero P e).bind fun z => if z.cells.size = P.cellsOf e ∧ 0 < P.cellsOf e ∧ 0 < P.bytesOf e ∧ z.cells.all scal = true then some (P.cellsOf e, P.bytesOf e, z.cells.toList) else none else none
  | _ => none
/-- A struct type: where its fields lie, its zero. -/
def bspec (t : TypeId) : Option (List (Nat × Nat) × List Value) := match P.underlying t with
  | some (.struct fs) => if fs.all (fun f => (P.info? f.type).isSome) = true then (tzero P t).bind fun z => if z.cells.all scal = true then some ((fs.map fun f => (f.offset, P.cellsOf f.type)).toList, z.cells.toList) else none else none
  | _ => none
def lspec (t : TypeId) : Option (Bool × Nat) := (aggT P t).map fun g => (g, P.cellsOf t)
def tspec (t : TypeId) : Bool × Nat := ((P.info? t).isSome, P.cellsOf t)
def xspec (t u : TypeId) : Bool := match P.underlying t, P.underlying u with
  | some (.slice e), some d => srcOk P e d
  | _, _ => false
end

section
variable {P : Program} {t u : TypeId} {σ : Heap} {C B : Nat} {zs : List Value} {pl : List (Nat × Nat)} {k k' : IntKind}
theorem sspec_out (h : sspec P t = some (C, B, zs)) : ∃ e z, P.underlying t = some (.slice e) ∧ (P.info? e).isSome = true ∧ tzero P e = some z ∧ z.cells.size = C ∧ 0 < C ∧ 0 < B ∧ z.cells.all scal = true ∧ P.cellsOf e = C ∧ P.bytesOf e = B ∧ z.cells.toList = zs := by
  unfold sspec at h
  split at h
  case h_2 => simp at h
  rename_i e he
  split at h
  case isFalse => simp at h
  rename_i hi
  obtain ⟨z, hz, h⟩ := Option.bind_eq_some_iff.1 h
  split at h
  case isFalse => simp at h
  rename_i hc
  simp only [Option.some.injEq, Prod.mk.injEq] at h
  obtain ⟨rfl, rfl, rfl⟩ := h
  exact ⟨e, z, he, hi, hz, hc.1, hc.2.1, hc.2.2.1, hc.2.2.2, rfl, rfl, rfl⟩
theorem indexAddr_s (h : sspec P t = some (C, B, zs)) {n o len c : Nat} {i : Int} : aindexAddr P t (.slice (some ⟨n, o, none⟩) len c) (.int k i) = if 0 ≤ i ∧ i < (len : Int) then some (.pointer (some ⟨n, o + i.toNat * C, none⟩)) else none := by
  obtain ⟨e, z, h1, h2, h3, h4, h5, h6, h7, h8, h9, h10⟩ := sspec_out h
  simp only [aindexAddr, h1, h2, h8, true_and]
theorem makeSlice_s (h : sspec P t = some (C, B, zs)) {n : Int} : amakeSlice P σ t (.int k n) (.int k' n) = if 0 ≤ n ∧ n ≤ 140737488355328 ∧ n * B ≤ 140737488355328 then
    some (.slice (some ⟨σ.length, 0, none⟩) n.toNat n.toNat, σ ++ [some ⟨(List.replicate n.toNat zs).flatten, true, C⟩]) else none := by
  obtain ⟨e, z, h1, h2, h3, h4, h5, h6, h7, h8, h9, h10⟩ := sspec_out h
  have hc : z.cells.size = C ∧ 0 < C ∧ z.cells.all scal = true := ⟨h4, h5, h7⟩
  simp only [amakeSlice, h1, h2, h3, h8, h9, Option.bind_some, ↓if_pos hc, h10, if_true, true_and, Int.le_refl]
theorem buildSlice_s (h : sspec P t = some (C, B, zs)) {len : Nat} {parts : List (Nat × Value)} : abuildSlice P σ t len parts = if len * C ≤ 16777216 then
    (afill (fun i => some (i * C, C)) (List.replicate len zs).flatten parts).map fun cs => (.slice (some ⟨σ.length, 0, none⟩) len len, σ ++ [some ⟨cs, true, C⟩]) else none := by
  obtain ⟨e, z, h1, h2, h3, h4, h5, h6, h7, h8, h9, h10⟩ := sspec_out h
  have hc : z.cells.size = C ∧ 0 < C ∧ z.cells.all scal = true := ⟨h4, h5, h7⟩
  simp only [abuildSlice, h1, h2, h3, h8, h9, Option.bind_some, ↓if_pos hc, h10, true_and]
theorem append_p (h : sspec P t = some (C, B, zs)) (hx : xspec P t u = true) {n o : Nat} {len c : Nat} {x : Value} : aappend P σ #[t, u] (.slice (some ⟨n, o, none⟩) len c) x = (asrc σ C x).bind fun new => if (len + new.1 + 410) * B ≤ 225179981368524 then
    (if len = 0 ∧ c = 0 then some (.slice (some ⟨σ.length, 0, none⟩) new.1 (new.1 + 1), σ ++ [some ⟨new.2, true, C⟩])
     else (look σ n).bind fun b => if b.own = true ∧ b.sz = C ∧ b.cells.length = o + len * C then
          some (.slice (some ⟨σ.length, 0, none⟩) (len + new.1) (len + new.1 + 1), (σ.set n none) ++ [some ⟨b.cells.drop o ++ new.2, true, C⟩]) else none) else none := by
  obtain ⟨e, z, h1, h2, h3, h4, h5, h6, h7, h8, h9, h10⟩ := sspec_out h
  unfold xspec at hx
  simp only [h1] at hx
  split at hx
  case h_2 => simp at hx
  rename_i e' d he' hd
  cases he'
  unfold aappend
  simp only [List.getElem?_toArray, List.getElem?_cons_zero, List.getElem?_cons_succ, Option.bind_some, h1, hd, h2, hx, and_self, if_true, h3, h4, h5, h6, h8, h9]
theorem append_n (h : sspec P t = some (C, B, zs)) (hx : xspec P t u = true) {x : Value} : aappend P σ #[t, u] (.slice none 0 0) x = (asrc σ C x).bind fun new => if (new.1 + 410) * B ≤ 225179981368524 then
    some (.slice (some ⟨σ.length, 0, none⟩) new.1 (new.1 + 1), σ ++ [some ⟨new.2, true, C⟩]) else none := by
  obtain ⟨e, z, h1, h2, h3, h4, h5, h6, h7, h8, h9, h10⟩ := sspec_out h
  unfold xspec at hx
  simp only [h1] at hx
  split at hx
  case h_2 => simp at hx
  rename_i e' d he' hd
  cases he'
  unfold aappend
  simp only [List.getElem?_toArray, List.getElem?_cons_zero, List.getElem?_cons_succ, Option.bind_some, h1, hd, h2, hx, and_self, if_true, h3, h4, h5, h6, h8, h9, Nat.zero_add]
theorem load_s (h : lspec P t = some (false, C)) {n o : Nat} : aload P σ t (.pointer (some ⟨n, o, none⟩)) = (look σ n).bind fun b => b.cells[o]? := by
  unfold lspec at h
  obtain ⟨g, hg, h⟩ := Option.map_eq_some_iff.1 h
  obtain ⟨rfl, rfl⟩ := Prod.mk.inj h
  simp only [aload, hg, Option.bind_some, Bool.false_eq_true, if_false]
theorem load_a (h : lspec P t = some (true, C)) {n o : Nat} : aload P σ t (.pointer (some ⟨n, o, none⟩)) = (look σ n).bind fun b => if o + C ≤ b.cells.length then some (.agg ((b.cells.drop o).take C).toArray) else none := by
  unfold lspec at h
  obtain ⟨g, hg, h⟩ := Option.map_eq_some_iff.1 h
  obtain ⟨rfl, rfl⟩ := Prod.mk.inj h
  simp only [aload, hg, Option.bind_some, if_true]
theorem store_s (h : tspec P t = (true, C)) {n o : Nat} {v : Value} : astore P σ t (.pointer (some ⟨n, o, none⟩)) v = (look σ n).bind fun b =>
    if b.own = true ∧ (cl v).length = C ∧ o + (cl v).length ≤ b.cells.length ∧ lone v = true then some (σ.set n (some { b with cells := setAll b.cells o (cl v) })) else none := by
  unfold tspec at h
  obtain ⟨h1, rfl⟩ := Prod.mk.inj h
  simp only [astore, h1, true_and, lone_eq]
  simp only [cl_size]
  rfl
theorem build_s (h : bspec P t = some (pl, zs)) {parts : List (Nat × Value)} : abuild P t parts = (afill (fun i => pl[i]?) zs parts).map fun cs => .agg cs.toArray := by
  unfold bspec at h
  split at h
  case h_2 => simp at h
  rename_i fs hfs
  split at h
  case isFalse => simp at h
  rename_i hi
  obtain ⟨z, hz, h⟩ := Option.bind_eq_some_iff.1 h
  split at h
  case isFalse => simp at h
  rename_i hc
  obtain ⟨rfl, rfl⟩ := Prod.mk.inj (Option.some.inj h)
  simp only [abuild, hfs, hi, if_true, hz, Option.bind_some, hc]
  congr 2
  funext i
  simp
theorem field_s {f : Nat} (h : lspec P u = some (false, C)) {fs : Array Field} {o : Nat} {cs : Array Value} (hs : ∃ fs fl, P.underlying t = some (.struct fs) ∧ fs[f]? = some fl ∧ fl.type = u ∧ fl.offset = o) : afield P t (.agg cs) f = cs[o]? := by
  obtain ⟨fs, fl, h1, h2, rfl, rfl⟩ := hs
  unfold lspec at h
  obtain ⟨g, hg, h⟩ := Option.map_eq_some_iff.1 h
  obtain ⟨rfl, rfl⟩ := Prod.mk.inj h
  simp only [afield, h1, h2, Option.bind_some, apart, hg, Bool.false_eq_true, if_false]
theorem fill_nil {pl : Nat → Option (Nat × Nat)} {cs : List Value} : afill pl cs [] = some cs := eq_of_heq HEq.rfl
theorem fill_cons {pl : Nat → Option (Nat × Nat)} {cs : List Value} {i : Nat} {v : Value} {rest : List (Nat × Value)} : afill pl cs ((i, v) :: rest) = (pl i).bind fun p =>
    if (cl v).length = p.2 ∧ p.1 + (cl v).length ≤ cs.length ∧ lone v = true then afill pl (setAll cs p.1 (cl v)) rest else none := by
  simp only [afill, lone_eq]
  simp only [cl_size]
  rfl
theorem setAll_nil {cs : List Value} {o : Nat} : setAll cs o [] = cs := eq_of_heq HEq.rfl
theorem setAll_cons {cs : List Value} {o : Nat} {v : Value} {vs : List Value} : setAll cs o (v :: vs) = setAll (cs.set o v) (o + 1) vs := eq_of_heq HEq.rfl
theorem len_s (h : sspec P t = some (C, B, zs)) {a : Option Addr} {n c : Nat} : alen P #[t] [.slice a n c] = some (.int .i64 n) := by
  obtain ⟨e, z, h1, h2, h3, h4, h5, h6, h7, h8, h9, h10⟩ := sspec_out h
  simp [alen, h1]
theorem len_str (h : P.underlying t = some .string) {b : ByteArray} : alen P #[t] [.string b] = some (.int .i64 b.size) := by simp [alen, h]
theorem src_zero {sz c : Nat} {a : Option Addr} : asrc σ sz (.slice a 0 c) = some (0, []) := by simp [asrc]
theorem src_slice {sz c n o len : Nat} : asrc σ sz (.slice (some ⟨n, o, none⟩) (len + 1) c) = (look σ n).bind fun b => if o + (len + 1) * sz ≤ b.cells.length then some (len + 1, (b.cells.drop o).take ((len + 1) * sz)) else none := by simp [asrc]
theorem src_ptr {sz c n o len : Nat} {b : Blk} (h : look σ n = some b) (hl : o + len * sz ≤ b.cells.length) : asrc σ sz (.slice (some ⟨n, o, none⟩) len c) = some (len, (b.cells.drop o).take (len * sz)) := by
  cases len with
  | zero => simp [asrc]
  | succ m => rw [src_slice, h, Option.bind_some, if_pos hl]
theorem convert_i {k2 : IntKind} (h : (P.underlying t).isSome = true) (h2 : P.underlying u = some (.int k)) {n : Int} : aconvert P t u (.int k2 n) = some (.int k (k.wrap n)) := by
  unfold aconvert
  cases ht : P.underlying t with
  | none => rw [ht] at h; simp at h
  | some d => simp [h2]
theorem eq_b (h : P.underlying t = some .bool) {a b : Bool} : abin P .eql t (.bool a) (.bool b) = some (.bool (decide (a = b))) := by simp [abin, aeq, h]
theorem ne_b (h : P.underlying t = some .bool) {a b : Bool} : abin P .neq t (.bool a) (.bool b) = some (.bool (!decide (a = b))) := by simp [abin, aeq, h]
theorem index_str (h : P.underlying t = some .string) {s : ByteArray} {i : Int} : aindex P t (.string s) (.int k i) = if 0 ≤ i then (s.data[i.toNat]?).map fun b => .int .u8 b.toNat else none := by simp only [aindex, h]
theorem slice_str (h : P.underlying t = some .string) {s : ByteArray} {lo hi : Option Value} : aslice P σ t (.string s) lo hi none = (abound lo 0).bind fun l => (abound hi s.size).bind fun h => if 0 ≤ l ∧ l ≤ h ∧ h ≤ s.size then some (.string (s.extract l.toNat h.toNat)) else none := by
  simp only [aslice, h, Option.isNone_none, true_and]
theorem slice_sl (h : sspec P t = some (C, B, zs)) {n o len c : Nat} {lo hi : Option Value} : aslice P σ t (.slice (some ⟨n, o, none⟩) len c) lo hi none = (abound lo 0).bind fun l => (abound hi len).bind fun h =>
    if (0 ≤ l ∧ l ≤ h ∧ h ≤ len) ∧ (l = 0 ∨ sliceable σ C (some ⟨n, o, none⟩) = true) then some (.slice (some ⟨n, o + l.toNat * C, none⟩) (h - l).toNat (if l < h ∧ h = len ∧ c = len then (h - l).toNat else (h - l).toNat + 1)) else none := by
  obtain ⟨e, z, h1, h2, h3, h4, h5, h6, h7, h8, h9, h10⟩ := sspec_out h
  simp only [aslice, h1, h2, h8, if_true, Option.map_some, Option.isNone_some, Bool.false_eq_true, if_false, Option.isSome_none, false_and, false_or, true_and]
  congr 1
  funext l
  congr 1
  funext h
  simp only [abound, Option.bind_some]
  by_cases hc : (0 ≤ l ∧ l ≤ h ∧ h ≤ (len : Int))
  · simp [hc]
  · simp [hc]
theorem pick_b {c a b : Bool} : (bif c then Value.bool a else Value.bool b) = .bool (bif c then a else b) := by cases c <;> rfl
theorem ab_some {k : IntKind} {n d : Int} : abound (some (.int k n)) d = some n := eq_of_heq HEq.rfl
theorem ab_none {d : Int} : abound none d = some d := eq_of_heq HEq.rfl
theorem slab_i {n o : Nat} {b : Blk} {sz : Nat} (h : look σ n = some b) (hb : b.own = false ∨ b.sz = sz) : sliceable σ sz (some ⟨n, o, none⟩) = true := by
  simp only [sliceable, h]
  rcases hb with hb | hb <;> simp [hb]
theorem indexAddr_a {e : TypeId} {m : Nat} (h : P.underlying t = some (.array m e)) (h2 : (P.info? e).isSome = true) {n o : Nat} {i : Int} (hC : P.cellsOf e = C) : aindexAddr P t (.pointer (some ⟨n, o, none⟩)) (.int k i) = if 0 ≤ i ∧ i < (m : Int) then some (.pointer (some ⟨n, o + i.toNat * C, none⟩)) else none := by
  simp only [aindexAddr, h, h2, hC, true_and]
end
attribute [go_sem] pick_b Bool.cond_false_right Bool.cond_true_left ab_some ab_none Option.map_none List.replicate_succ List.replicate_zero List.flatten_cons List.flatten_nil List.append_nil List.length_set List.length_map Nat.mul_one List.take_succ_cons List.take_zero List.drop_zero Nat.add_one_ne_zero false_and and_false fill_nil fill_cons setAll_nil setAll_cons src_zero src_slice
end Go.Proofs.YtkgdkommahgakaaDoor.Abs

/- The abstract machine: what a row's reading of an argument is as blocks of the abstract heap. -/
namespace Go.Proofs.YtkgdkommahgakaaDoor.Abs
open Go Go.RowKit
set_option linter.unusedVariables false
set_option linter.unusedSimpArgs false

/-- A heap of blocks that are not the call's own, and the world. -/
structure Fo (G : Nat) (β : Map) (σ : Heap) (w : World) : Prop where
  holds : ∀ n cb b, β n = some cb → look σ n = some b → Holds β cb b w
  own : ∀ n cb, β n = some cb → cb.own = false
  fresh : ∀ n, σ.length ≤ n → β n = none
  glob : ∀ g, g < G → ∃ cb, β g = some cb ∧ cb.blk = g ∧ cb.off = 0

section
variable (P : Program)
def okFs (ok : TypeId → Bool) : List Field → Nat → Nat → Bool
  | [], off, total => off == total
  | f :: fs, off, total => f.offset == off && ok f.type && okFs ok fs (off + P.cellsOf f.type) total
def okT : Nat → TypeId → Bool
  | 0, _ => false
  | d + 1, t => match P.underlying t with
    | some .bool => P.cellsOf t == 1
    | some (.int _) => P.cellsOf t == 1
    | some .string => P.cellsOf t == 1
    | some (.slice e) => P.cellsOf t == 1 && okT d e && decide (0 < P.cellsOf e)
    | some (.struct fs) => okFs P (okT d) fs.toList 0 (P.cellsOf t)
    | _ => false
def RDF (rd : TypeId → List Value → Prop) : List TypeId → List Value → Prop
  | [], as => as = []
  | t :: ts, as => rd t (as.take (P.cellsOf t)) ∧ P.cellsOf t ≤ as.length ∧ RDF rd ts (as.drop (P.cellsOf t))
/-- Cells of the abstract machine that are a value of a type, as a claim reads it. -/
def RD (σ : Heap) : Nat → TypeId → List Value → Prop
  | 0, _, _ => False
  | d + 1, t, as => match P.underlying t with
    | some .bool => ∃ b, as = [.bool b]
    | some (.int k) => ∃ n, as = [.int k n] ∧ (Lit.int k n).wf = true
    | some .string => ∃ s, as = [.string s] ∧ s.size ≤ 140737488351232
    | some (.slice e) => ∃ n len cells, as = [.slice (some ⟨n, 0, none⟩) len (len + 1)] ∧ len * P.bytesOf e ≤ 140737488351232 ∧ look σ n = some ⟨cells, false, P.cellsOf e⟩ ∧ cells.length = len * P.cellsOf e ∧
        ∀ i, i < len → RD σ d e ((cells.drop (i * P.cellsOf e)).take (P.cellsOf e))
    | some (.struct fs) => RDF P (RD σ d) (fs.toList.map (·.type)) as
    | _ => False
end

section
variable {P : Program}
theorem RDF.mono {rd rd' : TypeId → List Value → Prop} (h : ∀ t as, rd t as → rd' t as) : ∀ {fs : List TypeId} {as : List Value}, RDF P rd fs as → RDF P rd' fs as
  | [], _, hr => hr
  | f :: fs, as, hr => ⟨h _ _ hr.1, hr.2.1, RDF.mono h hr.2.2⟩
theorem RD.mono {σ σ' : Heap} (hp : σ <+: σ') : ∀ {d : Nat} {t : TypeId} {as : List Value}, RD P σ d t as → RD P σ' d t as
  | 0, _, _, h => h
  | d + 1, t, as, h => by
    unfold RD at h ⊢
    split at h
    · exact h
    · exact h
    · exact h
    · obtain ⟨n, len, cells, h1, h2, h3, h4, h5⟩ := h
      exact ⟨n, len, cells, h1, h2, look_prefix hp h3, h4, fun i hi => (h5 i hi).mono hp⟩
    · exact RDF.mono (fun t as => RD.mono hp) h
    · exact h

/-- One more block. -/
theorem Fo.add {G : Nat} {β : Map} {σ : Heap} {w : World} (h : Fo G β σ w) (hG : G ≤ σ.length) {cb : CB} {b : Blk} (hb : Holds β cb b w) (ho : cb.own = false) :
    Fo G (fun n => if n = σ.length then some cb else β n) (σ ++ [some b]) w ∧ ∀ n c, β n = some c → (if n = σ.length then some cb else β n) = some c := by
  have hsub : ∀ n c, β n = some c → (if n = σ.length then some cb else β n) = some c := fun n c hn => by
    rw [if_neg]
    · exact hn
    · rintro rfl
      rw [h.fresh _ (Nat.le_refl _)] at hn
      simp at hn
  refine ⟨⟨fun n c b' hn hl => ?_, fun n c hn => ?_, fun n hn => ?_, fun g hg => ?_⟩, hsub⟩
  · by_cases he : n = σ.length
    · subst he
      simp only [if_true, Option.some.injEq] at hn
      subst hn
      rw [look_app_new, look_zero] at hl
      obtain rfl := Option.some.inj hl
      exact hb.later hsub rfl
    · simp only [if_neg he] at hn
      have hlt : n < σ.length := by
        rcases Nat.lt_or_ge n σ.length with h' | h'
        · exact h'
        · rw [h.fresh n h'] at hn; simp at hn
      rw [look_app_lt hlt] at hl
      exact (h.holds n c b' hn hl).later hsub rfl
  · by_cases he : n = σ.length
    · subst he
      simp only [if_true, Option.some.injEq] at hn
      exact hn ▸ ho
    · simp only [if_neg he] at hn
      exact h.own n c hn
  · simp only [List.length_append, List.length_cons, List.length_nil] at hn
    rw [if_neg (by omega)]
    exact h.fresh n (by omega)
  · obtain ⟨c, h1, h2⟩ := h.glob g hg
    exact ⟨c, hsub _ _ h1, h2⟩

section
variable {H : Type} {enc : TypeId × Value → H} {w : World} {spare : Nat → Bool} {held : Bool} {G : Nat}

def Opened (G : Nat) (w : World) (β : Map) (σ : Heap) (cs : List Value) (R : Heap → List Value → Prop) : Prop :=
  ∃ β' σ' as, Fo G β' σ' w ∧ σ <+: σ' ∧ (∀ n c, β n = some c → β' n = some c) ∧ RelL β' as cs ∧ (∀ v ∈ as, v.oneCell' = true) ∧ R σ' as

theorem add_add' (a : Addr) (m n : Nat) : (a.add m).add n = a.add (m + n) := by
  unfold Addr.add
  by_cases hm : m = 0
  · simp [hm]
  · by_cases hn : n = 0
    · simp [hm, hn]
    · simp [hm, hn, Nat.add_assoc]
theorem add_block (a : Addr) (i : Nat) : (a.add i).block = a.block := by unfold Addr.add; split <;> rfl
theorem add_off (a : Addr) (i : Nat) : (a.add i).off = a.off + i := by unfold Addr.add; split <;> simp_all
theorem add_spot (a : Addr) (i : Nat) (h : a.spot = none) : (a.add i).spot = none := by unfold Addr.add; split <;> simp_all
theorem weightsAll_mem {H : Type} {P : Program} {e : TypeId} : ∀ (ds : List (DataW H)) (i : Nat) (d : DataW H), ds[i]? = some d → ∀ n ∈ d.weights P e, n ∈ DataW.weightsAll P e ds
  | [], _, _, h, _, _ => by simp at h
  | d0 :: r, 0, d, h, n, hn => by
    simp only [List.getElem?_cons_zero, Option.some.injEq] at h
    subst h
    simp only [DataW.weightsAll, List.mem_append]
    exact .inl hn
  | d0 :: r, i + 1, d, h, n, hn => by
    simp only [List.getElem?_cons_succ] at h
    simp only [DataW.weightsAll, List.mem_append]
    exact .inr (weightsAll_mem r i d h n hn)

/-- The fields of a struct, one behind the other. -/
theorem open_fields {d : Nat} (ih : ∀ (t : TypeId) (fuel : Nat) (cs : List Value) (x : DataW H × List MemPlace) (β : Map) (σ : Heap), okT P d t = true → DataW.trod enc P w 0 spare held fuel t cs = some x → (∀ n ∈ x.1.weights P t, n ≤ reachBytes) → Fo G β σ w → G ≤ σ.length →
      Opened G w β σ cs fun σ' as => RD P σ' d t as) {fuel : Nat} {cs : List Value} : ∀ (fs : List Field) (off : Nat) (xs : List (DataW H × List MemPlace)) (β : Map) (σ : Heap), okFs P (okT P d) fs off cs.length = true → off ≤ cs.length → xs.length = fs.length →
      (∀ (i : Nat) (f : Field), fs[i]? = some f → DataW.trod enc P w 0 spare held fuel f.type ((cs.drop f.offset).take (P.cellsOf f.type)) = xs[i]?) →
      (∀ n ∈ DataW.weightsEach P (fs.map (·.type)) (xs.map (·.1)), n ≤ reachBytes) → Fo G β σ w → G ≤ σ.length → Opened G w β σ (cs.drop off) fun σ' as => RDF P (RD P σ' d) (fs.map (·.type)) as
  | [], off, xs, β, σ, hok, hoff, hl, hx, hw, hf, hG => by
    simp only [okFs, beq_iff_eq] at hok
    refine ⟨β, σ, [], hf, List.prefix_rfl, fun _ _ h => h, ?_, by simp, rfl⟩
    rw [List.drop_eq_nil_of_le (by omega)]
    exact .nil
  | f :: fs, off, xs, β, σ, hok, hoff, hl, hx, hw, hf, hG => by
    obtain ⟨y, ys, rfl⟩ : ∃ y ys, xs = y :: ys := by
      match xs, hl with
      | y :: ys, _ => exact ⟨y, ys, rfl⟩
    simp only [okFs, Bool.and_eq_true, beq_iff_eq] at hok
    obtain ⟨⟨ho, hokt⟩, hoks⟩ := hok
    have h0 := hx 0 f rfl
    have hwy : ∀ n ∈ y.1.weights P f.type, n ≤ reachBytes := fun n hn => hw n (by simp [DataW.weightsEach, hn])
    obtain ⟨β1, σ1, as1, k1, k2, k3, k4, k5, k6⟩ := ih f.type fuel _ y β σ hokt (by simpa using h0) hwy hf hG
    have hroom : off + P.cellsOf f.type ≤ cs.length := by
      clear hx hl hw h0
      have : ∀ (fs : List Field) (a : Nat), okFs P (okT P d) fs a cs.length = true → a ≤ cs.length := by
        intro fs
        induction fs with
        | nil => intro a h; simp only [okFs, beq_iff_eq] at h; omega
        | cons g gs ihg =>
          intro a h
          simp only [okFs, Bool.and_eq_true] at h
          have := ihg _ h.2
          omega
      exact this _ _ hoks
    obtain ⟨β2, σ2, as2, l1, l2, l3, l4, l5, l6⟩ := open_fields ih fs (off + P.cellsOf f.type) ys β1 σ1 hoks hroom (by simpa using hl) (fun i g hg => by have := hx (i + 1) g (by simpa using hg); simpa using this)
      (fun n hn => hw n (by simp only [List.map_cons, DataW.weightsEach, List.mem_append]; exact .inr hn)) k1 (Nat.le_trans hG k2.length_le)
    have hlen : as1.length = P.cellsOf f.type := by
      rw [k4.length, ho, List.length_take, List.length_drop]
      omega
    refine ⟨β2, σ2, as1 ++ as2, l1, k2.trans l2, fun n c h => l3 n c (k3 n c h), ?_, ?_, ?_⟩
    · have e : cs.drop off = (cs.drop off).take (P.cellsOf f.type) ++ cs.drop (off + P.cellsOf f.type) := by
        rw [← List.drop_drop]
        exact (List.take_append_drop _ _).symm
      rw [e]
      rw [ho] at k4
      exact (k4.mono l3).append l4
    · intro v hv
      rcases List.mem_append.1 hv with hv | hv
      · exact k5 v hv
      · exact l5 v hv
    · refine ⟨?_, by simp [hlen], ?_⟩
      · show RD P σ2 d f.type ((as1 ++ as2).take (P.cellsOf f.type))
        rw [List.take_append_of_le_length (by omega), List.take_of_length_le (by omega)]
        exact k6.mono l2
      · show RDF P (RD P σ2 d) (fs.map (·.type)) ((as1 ++ as2).drop (P.cellsOf f.type))
        rw [List.drop_append_of_le_length (by omega), List.drop_eq_nil_of_le (by omega), List.nil_append]
        exact l6

/-- The elements of a slice, one behind the other. -/
theorem open_elems {d : Nat} {e : TypeId} (ih : ∀ (fuel : Nat) (cs : List Value) (x : DataW H × List MemPlace) (β : Map) (σ : Heap), DataW.trod enc P w 0 spare held fuel e cs = some x → (∀ n ∈ x.1.weights P e, n ≤ reachBytes) → Fo G β σ w → G ≤ σ.length →
      Opened G w β σ cs fun σ' as => RD P σ' d e as) {fuel : Nat} {C : Nat} (hC : P.cellsOf e = C) {a : Addr} : ∀ (m : Nat) (elems : List (DataW H × List MemPlace)) (β : Map) (σ : Heap), m ≤ elems.length →
      (∀ i, i < m → (w.cells? 0 (a.add (i * C)) C).bind (DataW.trod enc P w 0 spare held fuel e) = elems[i]?) →
      (∀ (i : Nat) (y : DataW H × List MemPlace), elems[i]? = some y → ∀ n ∈ y.1.weights P e, n ≤ reachBytes) → Fo G β σ w → G ≤ σ.length →
      ∃ cs : List Value, cs.length = m * C ∧ (∀ j v, cs[j]? = some v → w.cell? (a.add j) = some v) ∧ Opened G w β σ cs fun σ' as => ∀ i, i < m → RD P σ' d e ((as.drop (i * C)).take C)
  | 0, elems, β, σ, hm, hx, hw, hf, hG => ⟨[], by simp, fun j v h => by simp at h, β, σ, [], hf, List.prefix_rfl, fun _ _ h => h, .nil, by simp, fun i hi => by omega⟩
  | m + 1, elems, β, σ, hm, hx, hw, hf, hG => by
    obtain ⟨cs, c1, c2, β1, σ1, as, k1, k2, k3, k4, k5, k6⟩ := open_elems ih hC m elems β σ (by omega) (fun i hi => hx i (by omega)) hw hf hG
    have h1 := hx m (by omega)
    obtain ⟨y, hy⟩ : ∃ y, elems[m]? = some y := ⟨_, List.getElem?_eq_getElem (by omega)⟩
    rw [hy, Option.bind_eq_some_iff] at h1
    obtain ⟨cs', hcs, hy'⟩ := h1
    obtain ⟨_, hcl, hcell⟩ := World.cells?_some hcs
    obtain ⟨β2, σ2, as2, l1, l2, l3, l4, l5, l6⟩ := ih fuel cs' y β1 σ1 hy' (hw m y hy) k1 (Nat.le_trans hG k2.length_le)
    have hal : as.length = m * C := by rw [k4.length, c1]
    have hal2 : as2.length = C := by rw [l4.length, hcl]
    have hms : (m + 1) * C = m * C + C := by rw [Nat.add_mul, Nat.one_mul]
    refine ⟨cs ++ cs', by simp [c1, hcl, hms], fun j v hv => ?_, β2, σ2, as ++ as2, l1, k2.trans l2, fun n c h => l3 n c (k3 n c h), (k4.mono l3).append l4, ?_, fun i hi => ?_⟩
    · rcases Nat.lt_or_ge j (m * C) with hj | hj
      · rw [List.getElem?_append_left (by omega)] at hv
        exact c2 j v hv
      · rw [List.getElem?_append_right (by omega), c1] at hv
        have hj2 := (List.getElem?_eq_some_iff.1 hv).1
        have h2 := hcell (j - m * C) (by omega)
        rw [hv, add_add'] at h2
        rw [← h2]
        congr 2
        omega
    · intro v hv
      rcases List.mem_append.1 hv with hv | hv
      · exact k5 v hv
      · exact l5 v hv
    · by_cases hi2 : i < m
      · have hle : i * C + C ≤ m * C := by
          have := Nat.mul_le_mul_right C (show i + 1 ≤ m by omega)
          rw [Nat.add_mul, Nat.one_mul] at this
          exact this
        rw [List.drop_append_of_le_length (by omega), List.take_append_of_le_length (by rw [List.length_drop]; omega)]
        exact (k6 i hi2).mono l2
      · have e : i = m := by omega
        subst e
        rw [List.drop_append_of_le_length (by omega), List.drop_eq_nil_of_le (by omega), List.nil_append, List.take_of_length_le (by omega)]
        exact l6

theorem Opened.flat {β : Map} {σ : Heap} {v : Value} {R : Heap → List Value → Prop} (hf : Fo G β σ w) (hv : scal v = true) (ho : v.oneCell' = true) (hR : R σ [v]) : Opened G w β σ [v] R :=
  ⟨β, σ, [v], hf, List.prefix_rfl, fun _ _ h => h, .single (.scal v hv), by simpa using ho, hR⟩

/-- **What a claim reads, as blocks of the abstract heap.** -/
theorem open_val (hs : ∀ b, spare b = true) : ∀ (d : Nat) (t : TypeId) (fuel : Nat) (cs : List Value) (x : DataW H × List MemPlace) (β : Map) (σ : Heap), okT P d t = true → DataW.trod enc P w 0 spare held fuel t cs = some x → (∀ n ∈ x.1.weights P t, n ≤ reachBytes) → Fo G β σ w → G ≤ σ.length →
    Opened G w β σ cs fun σ' as => RD P σ' d t as
  | 0, t, fuel, cs, x, β, σ, hok, h, hw, hf, hG => by simp [okT] at hok
  | d + 1, t, fuel, cs, x, β, σ, hok, h, hw, hf, hG => by
    unfold okT at hok
    split at hok
    · rename_i ht
      obtain ⟨b, rfl, rfl⟩ := DataW.trod_bool ht h
      exact Opened.flat hf rfl rfl (by unfold RD; rw [ht]; exact ⟨b, rfl⟩)
    · rename_i k ht
      obtain ⟨n, rfl, rfl, hwf⟩ := DataW.trod_int ht h
      exact Opened.flat hf rfl rfl (by unfold RD; rw [ht]; exact ⟨n, rfl, hwf⟩)
    · rename_i ht
      obtain ⟨s, rfl, rfl, _⟩ := DataW.trod_string ht h
      have hsz : s.size ≤ 140737488351232 := by
        have := hw s.data.toList.length (by simp [DataW.weights])
        simpa [reachBytes] using this
      exact Opened.flat hf rfl rfl (by unfold RD; rw [ht]; exact ⟨s, rfl, hsz⟩)
    · rename_i e ht
      simp only [Bool.and_eq_true, decide_eq_true_eq] at hok
      obtain ⟨⟨_, hoke⟩, hpos⟩ := hok
      -- an empty slice that leads nowhere
      have empty : ∀ (X : Option Addr), Opened G w β σ [.slice X 0 0] fun σ' as => RD P σ' (d + 1) t as := fun X => by
        refine ⟨β, σ ++ [some ⟨[], false, P.cellsOf e⟩], [.slice (some ⟨σ.length, 0, none⟩) 0 1], ⟨fun n cb b hn hl => ?_, hf.own, fun n hn => hf.fresh n (by simp at hn; omega), hf.glob⟩, List.prefix_append _ _, fun _ _ h => h, .single (.slc0 _ _ _), by simp [Value.oneCell'], ?_⟩
        · have hlt : n < σ.length := by
            rcases Nat.lt_or_ge n σ.length with h' | h'
            · exact h'
            · rw [hf.fresh n h'] at hn; simp at hn
          rw [look_app_lt hlt] at hl
          exact hf.holds n cb b hn hl
        · unfold RD
          rw [ht]
          exact ⟨σ.length, 0, [], rfl, by simp, by rw [look_app_new, look_zero], by simp, fun i hi => by omega⟩
      rcases DataW.trod_slice ht h with ⟨rfl, rfl⟩ | ⟨a, len, cap, elems, rest, n, rfl, rfl, rfl, hb, hl, hm, hlen, hel, hrest, _⟩
      · exact empty none
      · by_cases hcap : cap = 0
        · subst hcap
          have : len = 0 := by omega
          subst this
          exact empty (some a)
        · obtain ⟨hrl, hre⟩ := hrest (hs _)
          have hwe : ∀ (i : Nat) (y : DataW H × List MemPlace), elems[i]? = some y → ∀ n ∈ y.1.weights P e, n ≤ reachBytes := fun i y hy n hn => by
            refine hw n ?_
            simp only [DataW.weights, ht, List.mem_cons, List.mem_append]
            exact .inr (.inl (weightsAll_mem (elems.map (·.1)) i y.1 (by simp [hy]) n hn))
          obtain ⟨cs, c1, c2, β1, σ1, as, k1, k2, k3, k4, k5, k6⟩ := open_elems (fun fuel cs x β σ h hw hf hG => open_val hs d e fuel cs x β σ hoke h hw hf hG) rfl len elems β σ (by omega) hel hwe hf hG
          have hobj : ∃ c ee frz, w.heap[a.block]? = some (.cells c ee frz) ∧ a.spot = none ∧ a.off < c.size := by
            have hfirst : ∃ v, w.cell? a = some v := by
              by_cases hl0 : 0 < len
              · have h1 := hel 0 hl0
                obtain ⟨y, hy⟩ : ∃ y, elems[0]? = some y := ⟨_, List.getElem?_eq_getElem (by omega)⟩
                rw [hy, Option.bind_eq_some_iff] at h1
                obtain ⟨cs', hcs, _⟩ := h1
                obtain ⟨_, hcl, hcell⟩ := World.cells?_some hcs
                have h2 := hcell 0 hpos
                rw [List.getElem?_eq_getElem (by omega)] at h2
                refine ⟨_, Eq.trans ?_ h2⟩
                simp [Addr.add]
              · have h1 := hre 0 (by omega)
                obtain ⟨y, hy⟩ : ∃ y, rest[0]? = some y := ⟨_, List.getElem?_eq_getElem (by omega)⟩
                rw [hy, Option.bind_eq_some_iff] at h1
                obtain ⟨cs', hcs, _⟩ := h1
                obtain ⟨_, hcl, hcell⟩ := World.cells?_some hcs
                have h2 := hcell 0 hpos
                rw [List.getElem?_eq_getElem (by omega)] at h2
                have hl00 : len = 0 := by omega
                subst hl00
                refine ⟨_, Eq.trans ?_ h2⟩
                simp [Addr.add]
            obtain ⟨v, hv⟩ := hfirst
            unfold World.cell? at hv
            split at hv
            · rename_i c ee frz hc
              split at hv
              · simp at hv
              · rename_i hsp
                refine ⟨c, ee, frz, hc, ?_, (Array.getElem?_eq_some_iff.1 hv).1⟩
                cases hsp2 : a.spot with
                | none => rfl
                | some z => rw [hsp2] at hsp; simp at hsp
            · simp at hv
          obtain ⟨c, ee, frz, hc, hsp, hoff⟩ := hobj
          have hcell : ∀ j v, cs[j]? = some v → c[a.off + j]? = some v := fun j v hv => by
            have h1 := c2 j v hv
            unfold World.cell? at h1
            rw [add_block, hc] at h1
            simp only [add_spot a j hsp, add_off, Option.isSome_none, Bool.false_eq_true, if_false] at h1
            exact h1
          have hroom : a.off + len * P.cellsOf e ≤ c.size := by
            by_cases hz : len * P.cellsOf e = 0
            · omega
            · have h1 := hcell (len * P.cellsOf e - 1) (cs[len * P.cellsOf e - 1]'(by omega)) (List.getElem?_eq_getElem (by omega))
              have := (Array.getElem?_eq_some_iff.1 h1).1
              omega
          have hH : Holds β1 ⟨a.block, a.off, len * P.cellsOf e, false, P.cellsOf e⟩ ⟨as, false, P.cellsOf e⟩ w := by
            refine ⟨⟨c, ee, frz, hc, hroom, fun h => by simp at h, fun i v hv => ?_⟩, ?_, rfl, rfl, k5⟩
            · obtain ⟨v', h1, h2⟩ := k4.get i v hv
              exact ⟨v', hcell i v' h1, h2⟩
            · show as.length ≤ len * P.cellsOf e
              rw [k4.length, c1]
              exact Nat.le_refl _
          obtain ⟨l1, l2⟩ := k1.add (Nat.le_trans hG k2.length_le) hH rfl
          refine ⟨_, σ1 ++ [some ⟨as, false, P.cellsOf e⟩], [.slice (some ⟨σ1.length, 0, none⟩) len (len + 1)], l1, k2.trans (List.prefix_append _ _), fun n c h => l2 n c (k3 n c h), ?_, by simp [Value.oneCell'], ?_⟩
          · have ha : a = ⟨a.block, a.off + 0, none⟩ := by
              cases a
              simp only at hsp
              subst hsp
              rfl
            rw [ha]
            exact .single (.slc σ1.length 0 len (len + 1) cap ⟨a.block, a.off, len * P.cellsOf e, false, P.cellsOf e⟩ (if_pos rfl) hl (fun h => by omega) (fun h => by simp at h))
          · unfold RD
            rw [ht]
            refine ⟨σ1.length, len, as, rfl, ?_, by rw [look_app_new, look_zero], by rw [k4.length, c1], fun i hi => (k6 i hi).mono (List.prefix_append _ _)⟩
            have hwt : (elems.length + rest.length) * P.bytesOf e ≤ reachBytes := hw _ (by simp [DataW.weights, ht])
            have e1 : len ≤ elems.length + rest.length := by omega
            exact Nat.le_trans (Nat.mul_le_mul_right _ e1) hwt
    · rename_i fs ht
      obtain ⟨xs, n, rfl, rfl, hcs, hl, hx⟩ := DataW.trod_struct ht h
      rw [← hcs] at hok
      obtain ⟨β1, σ1, as, k1, k2, k3, k4, k5, k6⟩ := open_fields (fun t fuel cs x β σ hok h hw hf hG => open_val hs d t fuel cs x β σ hok h hw hf hG) fs.toList 0 xs β σ hok (Nat.zero_le _) (by simpa using hl) (fun i f hf => hx i f (by simpa using hf))
        (fun n hn => hw n (by simpa [DataW.weights, ht] using hn)) hf hG
      refine ⟨β1, σ1, as, k1, k2, k3, by simpa using k4, k5, ?_⟩
      unfold RD
      rw [ht]
      exact k6
    · simp at hok
end
end
end Go.Proofs.YtkgdkommahgakaaDoor.Abs

/- The abstract machine: from a run there to a claim's row. -/
namespace Go.Proofs.YtkgdkommahgakaaDoor.Abs
open Go Go.RowKit
set_option linter.unusedVariables false
set_option linter.unusedSimpArgs false

/-- No function is told from outside. -/
def noExt : Ext := fun _ _ _ _ _ => False
def heap0 (P : Program) : Heap := List.replicate P.globals.size none
def map0 (P : Program) : Map := fun n => if n < P.globals.size then some ⟨n, 0, 0, false, 0⟩ else none
theorem fo0 (P : Program) (w : World) : Fo P.globals.size (map0 P) (heap0 P) w where
  holds n cb b hn hl := by
    have : look (heap0 P) n = none := by
      unfold look heap0
      rw [List.getElem?_replicate]
      split <;> rfl
    rw [this] at hl
    simp at hl
  own n cb h := by
    unfold map0 at h
    split at h
    · obtain rfl := Option.some.inj h; rfl
    · simp at h
  fresh n hn := by
    simp only [heap0, List.length_replicate] at hn
    exact if_neg (by omega)
  glob g hg := ⟨_, if_pos hg, rfl, rfl⟩
theorem len0 (P : Program) : P.globals.size ≤ (heap0 P).length := by simp [heap0]

theorem Fo.sim {G : Nat} {β : Map} {σ : Heap} {w : World} (h : Fo G β σ w) : Sim w.heap.size G β σ w :=
  ⟨Nat.le_refl _, h.holds, fun n cb b hn hl ho => by rw [h.own n cb hn] at ho; simp at ho, fun n m cb cb' b b' _ hn _ _ _ ho => by rw [h.own n cb hn] at ho; simp at ho, h.glob⟩

/-- **A law that answers true on the abstract machine answers true, and touches nothing that was there.** -/
theorem law_calls {P : Program} (hm : P.follows .mixedOrders = true) {X : Ext} (hX : ∀ f args σ v σ', X f args σ v σ' → ∀ base, CallSound P base f args σ v σ' ∧ σ.length ≤ σ'.length) {f : FuncId} {args : List Value} {cargs : Array Value} {σ : Heap} {β : Map} {w : World}
    (h : CW P X f args σ fun v _ => v = .bool true) (hrel : RelL β args cargs.toList) (hf : Fo P.globals.size β σ w) : Calls P f cargs w fun e w' => e = .returned (.bool true) ∧ Below w.heap.size w w' := by
  obtain ⟨_, v, σ', h1, rfl⟩ := h
  have := run_sound (base := w.heap.size) hm (fun f args σ v σ' h => hX f args σ v σ' h _) h1
  refine (this β w cargs hrel hf.sim fun n hn _ => hf.fresh n hn).mono fun e w' hh => ?_
  obtain ⟨β', v', rfl, h2, h3, h4⟩ := hh
  rw [h2.bool_inv]
  exact ⟨rfl, h4.below hf.sim⟩
theorem noExt_sound {P : Program} : ∀ f args σ v σ', noExt f args σ v σ' → ∀ base, CallSound P base f args σ v σ' ∧ σ.length ≤ σ'.length := fun _ _ _ _ _ h => h.elim

/-! ### what is read at a type -/
def ftypes (P : Program) (t : TypeId) : Option (List TypeId) := match P.underlying t with
  | some (.struct fs) => some (fs.toList.map (·.type))
  | _ => none
def elemOf (P : Program) (t : TypeId) : Option TypeId := match P.underlying t with
  | some (.slice e) => some e
  | _ => none
section
variable {P : Program} {σ : Heap} {d : Nat} {t e : TypeId} {as : List Value}
theorem RD_int {k : IntKind} (h : P.underlying t = some (.int k)) (hr : RD P σ d t as) : ∃ n, as = [.int k n] ∧ (Lit.int k n).wf = true := by
  cases d with
  | zero => exact hr.elim
  | succ d => unfold RD at hr; rw [h] at hr; exact hr
theorem RD_bool (h : P.underlying t = some .bool) (hr : RD P σ d t as) : ∃ b, as = [.bool b] := by
  cases d with
  | zero => exact hr.elim
  | succ d => unfold RD at hr; rw [h] at hr; exact hr
theorem RD_string (h : P.underlying t = some .string) (hr : RD P σ d t as) : ∃ s, as = [.string s] ∧ s.size ≤ 140737488351232 := by
  cases d with
  | zero => exact hr.elim
  | succ d => unfold RD at hr; rw [h] at hr; exact hr
theorem RD_struct {ts : List TypeId} (h : ftypes P t = some ts) (hr : RD P σ d t as) : ∃ d', RDF P (RD P σ d') ts as := by
  cases d with
  | zero => exact hr.elim
  | succ d =>
    unfold ftypes at h
    unfold RD at hr
    split at h
    · rename_i fs hfs
      rw [hfs] at hr
      exact ⟨d, Option.some.inj h ▸ hr⟩
    · simp at h
theorem RDF_cons {rd : TypeId → List Value → Prop} {ts : List TypeId} {C : Nat} (hC : P.cellsOf t = C) (hr : RDF P rd (t :: ts) as) : rd t (as.take C) ∧ C ≤ as.length ∧ RDF P rd ts (as.drop C) := hC ▸ hr

theorem chunks {α : Type} (f : α → List Value) (Q : α → Prop) {C : Nat} (hC : ∀ a, (f a).length = C) : ∀ (len : Nat) (cells : List Value), cells.length = len * C → (∀ i, i < len → ∃ a, (cells.drop (i * C)).take C = f a ∧ Q a) → ∃ L : List α, L.length = len ∧ cells = L.flatMap f ∧ ∀ a ∈ L, Q a
  | 0, cells, hl, _ => ⟨[], rfl, by simpa using hl, by simp⟩
  | len + 1, cells, hl, h => by
    obtain ⟨a, ha, hq⟩ := h 0 (by omega)
    have hs : (len + 1) * C = C + len * C := by rw [Nat.add_mul, Nat.one_mul, Nat.add_comm]
    obtain ⟨L, h1, h2, h3⟩ := chunks f Q hC len (cells.drop C) (by rw [List.length_drop, hl, hs]; omega) fun i hi => by
      obtain ⟨b, hb, hqb⟩ := h (i + 1) (by omega)
      refine ⟨b, ?_, hqb⟩
      rw [List.drop_drop, ← hb]
      congr 2
      rw [Nat.add_mul, Nat.one_mul, Nat.add_comm]
    refine ⟨a :: L, by simp [h1], ?_, fun b hb => ?_⟩
    · rw [List.flatMap_cons, ← h2, ← ha]
      simp
    · rcases List.mem_cons.1 hb with rfl | hb
      · exact hq
      · exact h3 b hb
/-- A slice that is read: its elements, as what they are. -/
theorem RD_slice {α : Type} (f : α → List Value) (Q : α → Prop) {C B : Nat} (h : elemOf P t = some e) (hc : P.cellsOf e = C) (hb : P.bytesOf e = B) (hC : ∀ a, (f a).length = C) (hr : RD P σ d t as)
    (he : ∀ d' cs, RD P σ d' e cs → ∃ a, cs = f a ∧ Q a) : ∃ (n : Nat) (L : List α), as = [.slice (some ⟨n, 0, none⟩) L.length (L.length + 1)] ∧ look σ n = some ⟨L.flatMap f, false, C⟩ ∧ L.length * B ≤ 140737488351232 ∧ ∀ a ∈ L, Q a := by
  cases d with
  | zero => exact hr.elim
  | succ d =>
    unfold elemOf at h
    unfold RD at hr
    split at h
    · rename_i e' he'
      obtain rfl := Option.some.inj h
      rw [he'] at hr
      obtain ⟨n, len, cells, rfl, h2, h3, h4, h5⟩ := hr
      rw [hc] at h3 h4 h5
      rw [hb] at h2
      obtain ⟨L, rfl, rfl, hq⟩ := chunks f Q hC len cells h4 fun i hi => by
        obtain ⟨a, ha, hqa⟩ := he d _ (h5 i hi)
        exact ⟨a, ha, hqa⟩
      exact ⟨n, L, rfl, h3, h2, hq⟩
    · simp at h
theorem flatMap_single {α : Type} (g : α → Value) (L : List α) : (L.flatMap fun a => [g a]) = L.map g := by
  induction L with
  | nil => rfl
  | cons a L ih => simp [ih]
end

/-- One more argument. -/
theorem open_arg {H : Type} {enc : TypeId × Value → H} {P : Program} {w : World} {held : Bool} {t : TypeId} {v : Value} {x : DataW H} {ps : List MemPlace} {ts : List TypeId} {ds : List (DataW H)} {j d : Nat} {β : Map} {σ : Heap}
    (hsz : (DataW.weightsEach P ts ds).all (· ≤ reachBytes) = true) (hj : ts[j]? = some t) (hdj : ds[j]? = some x) (hok : okT P d t = true) (hv : v.cells.toList = [v])
    (h : DataW.Trod enc P w 0 (fun _ => true) held t v x ps) (hf : Fo P.globals.size β σ w) (hG : P.globals.size ≤ σ.length) :
    ∃ β' σ' a, Fo P.globals.size β' σ' w ∧ P.globals.size ≤ σ'.length ∧ σ <+: σ' ∧ (∀ n c, β n = some c → β' n = some c) ∧ Rel β' a v ∧ RD P σ' d t [a] := by
  obtain ⟨fuel, hfu⟩ := h
  obtain ⟨β', σ', as, h1, h2, h3, h4, h5, h6⟩ := open_val (fun _ => rfl) d t fuel _ _ β σ hok hfu (fun m hm => by
    have := List.all_eq_true.1 hsz m (DataW.weights_mem_each hj hdj m hm)
    simpa using this) hf hG
  rw [hv] at h4
  obtain ⟨a, rfl⟩ : ∃ a, as = [a] := by
    match as, h4.length with
    | [a], _ => exact ⟨a, rfl⟩
  cases h4 with
  | cons _ _ _ _ hr _ => exact ⟨β', σ', a, h1, Nat.le_trans hG h2.length_le, h2, h3, hr, h6⟩
end Go.Proofs.YtkgdkommahgakaaDoor.Abs

/- The abstract machine: a stretch of code, cut in two: what holds in between. -/
namespace Go.Proofs.YtkgdkommahgakaaDoor.Abs
open Go Go.RowKit
set_option linter.unusedVariables false
set_option linter.unusedSimpArgs false

section
variable {P : Program} {X : Ext}
theorem thus_mono {α : Type} {o : Option α} {K K' : α → Prop} (h : thus o K) (hk : ∀ a, K a → K' a) : thus o K' := by
  obtain ⟨a, h1, h2⟩ := h
  exact ⟨a, h1, hk a h2⟩
theorem vcOp_mono {o : Op} {T : Tm} {σ : Heap} {K K' : Value → Heap → Prop} (h : vcOp P X o T σ K) (hk : ∀ v σ', K v σ' → K' v σ') : vcOp P X o T σ K' := by
  cases o with
  | call c =>
    obtain ⟨callee, as, ts⟩ := c
    cases callee with
    | value g => exact thus_mono h fun p hp => CW.mono hp hk
    | builtin b => exact thus_mono h fun p hp => hk _ _ hp
    | invoke r m => exact h.elim
  | _ => exact thus_mono h fun p hp => hk _ _ hp
theorem vcStep_mono {ops : Array Oper} {o : Oper} {T : Tm} {σ : Heap} {K K' : Tm → Heap → Prop} (h : vcStep P X ops o T σ K) (hk : ∀ T' σ', K T' σ' → K' T' σ') : vcStep P X ops o T σ K' := by
  unfold vcStep at h ⊢
  refine thus_mono h fun b hb => ?_
  split at hb
  · rename_i hbt
    rw [if_pos hbt]
    exact vcOp_mono hb fun v σ' hh => hk _ _ hh
  · rename_i hbt
    rw [if_neg hbt]
    exact hk _ _ hb
theorem vcOps_mono {ops : Array Oper} : ∀ {l : List Oper} {T : Tm} {σ : Heap} {K K' : Tm → Heap → Prop}, vcOps P X ops l T σ K → (∀ T' σ', K T' σ' → K' T' σ') → vcOps P X ops l T σ K'
  | [], _, _, _, _, h, hk => hk _ _ h
  | o :: l, _, _, _, _, h, hk => by
    unfold vcOps at h ⊢
    exact vcStep_mono h fun T' σ' hh => vcOps_mono hh hk
theorem vcDraw_mono {ops : Array Oper} : ∀ {k : Nat} {l : List Oper} {T : Tm} {σ : Heap} {K K' : Tm → Heap → Prop}, vcDraw P X ops k l T σ K → (∀ T' σ', K T' σ' → K' T' σ') → vcDraw P X ops k l T σ K'
  | _, [], _, _, _, _, h, hk => hk _ _ h
  | k, o :: l, _, _, _, _, h, hk => by
    unfold vcDraw at h ⊢
    exact vcStep_mono h fun T' σ' hh => ⟨hh.1, vcDraw_mono hh.2 hk⟩
theorem vc_mono {N : Nat} : ∀ {c : Code} {T : Tm} {σ : Heap} {Q Q' : AExit → Tm → Heap → Prop}, vc P X N c T σ Q → (∀ e T' σ', Q e T' σ' → Q' e T' σ') → vc P X N c T σ Q'
  | .skip, _, _, _, _, h, hk => hk _ _ _ h
  | .exit id, _, _, _, _, h, hk => hk _ _ _ h
  | .ret, _, _, _, _, h, hk => hk _ _ _ h
  | .seq a b, _, _, _, _, h, hk => by
    rw [v_seq] at h ⊢
    refine vc_mono (c := a) h fun e T' σ' hh => ?_
    cases e with
    | normal => exact vc_mono (c := b) hh hk
    | exit id => exact hk _ _ _ hh
    | ret => exact hk _ _ _ hh
  | .cond c x y, _, _, _, _, h, hk => by
    obtain ⟨t, h1, h2, h3⟩ := h
    exact ⟨t, h1, fun ht => vc_mono (c := x) (h2 ht) hk, fun ht => vc_mono (c := y) (h3 ht) hk⟩
  | .block id c, _, _, _, _, h, hk => vc_mono (c := c) h fun e T' σ' hh => hk _ _ _ hh
  | .loop c, _, _, _, _, h, hk => fun hd => (h hd).mono hk
  | .region _ ops false, _, _, _, _, h, hk => vcOps_mono h fun T' σ' hh => hk _ _ _ hh
  | .region _ ops true, _, _, _, _, h, hk => vcDraw_mono h fun T' σ' hh => hk _ _ _ hh
/-- Between two parts. -/
def betw (mid : Tm → Heap → Prop) (Q : AExit → Tm → Heap → Prop) : AExit → Tm → Heap → Prop
  | .normal, T, σ => mid T σ
  | e, T, σ => Q e T σ
theorem betw_normal {mid : Tm → Heap → Prop} {Q : AExit → Tm → Heap → Prop} {T : Tm} {σ : Heap} : betw mid Q .normal T σ = mid T σ := eq_of_heq HEq.rfl
theorem betw_ret {mid : Tm → Heap → Prop} {Q : AExit → Tm → Heap → Prop} {T : Tm} {σ : Heap} : betw mid Q .ret T σ = Q .ret T σ := eq_of_heq HEq.rfl
theorem betw_exit {mid : Tm → Heap → Prop} {Q : AExit → Tm → Heap → Prop} {T : Tm} {σ : Heap} {id : Nat} : betw mid Q (.exit id) T σ = Q (.exit id) T σ := eq_of_heq HEq.rfl
/-- The first part's end, whatever it is, and the second part from there on. -/
theorem vc_cut {N : Nat} {a b : Code} {T : Tm} {σ : Heap} {Q : AExit → Tm → Heap → Prop} (mid : Tm → Heap → Prop) (h : vc P X N a T σ (betw mid Q)) (h2 : ∀ T' σ', mid T' σ' → vc P X N b T' σ' Q) : vc P X N (.seq a b) T σ Q := by
  rw [v_seq]
  refine vc_mono h fun e T' σ' hh => ?_
  cases e with
  | normal => exact h2 _ _ hh
  | exit id => exact hh
  | ret => exact hh
/-- The same, where the first part stands behind others. -/
theorem seq_seq {N : Nat} {a b c : Code} {T : Tm} {σ : Heap} {Q : AExit → Tm → Heap → Prop} : vc P X N (.seq a (.seq b c)) T σ Q = vc P X N (.seq (.seq a b) c) T σ Q := by
  rw [v_seq, v_seq, v_seq]
  congr 1
  funext e T' σ'
  cases e with
  | normal => rw [after_normal, after_normal, v_seq]
  | exit id => rw [after_exit, after_exit, after_exit]
  | ret => rw [after_ret, after_ret, after_ret]
/-- A call of a function value. -/
def onFunc (v : Value) (K : FuncId → Array Value → Array Value → Prop) : Prop := ∃ g va vb, v = .func (.func g) va vb ∧ K g va vb
theorem onFunc_func {g : FuncId} {va vb : Array Value} {K : FuncId → Array Value → Array Value → Prop} : onFunc (.func (.func g) va vb) K = K g va vb := by
  apply propext
  constructor
  · rintro ⟨g', va', vb', h, hk⟩
    cases h
    exact hk
  · exact fun h => ⟨g, va, vb, rfl, h⟩
theorem onFunc_congr {v v' : Value} {K : FuncId → Array Value → Array Value → Prop} (h : here v = v') : onFunc v K = onFunc v' K := by rw [← h]; rfl
theorem o_callf {T : Tm} {σ : Heap} {K : Value → Heap → Prop} {t : Tmp} {as : Array Operand} {ts : Array TypeId} : vcOp P X (.call ⟨.value (.tmp t), as, ts⟩) T σ K = onFunc (T t) fun g va vb => CW P X g (va.toList ++ as.toList.map (aev P T) ++ vb.toList) σ K := by
  apply propext
  simp only [vcOp, acallee, aev, thus, onFunc]
  constructor
  · rintro ⟨p, h1, h2⟩
    split at h1
    · rename_i g first captured hT
      obtain rfl := Option.some.inj h1
      refine ⟨g, first, captured, hT, ?_⟩
      simpa using h2
    · simp at h1
  · rintro ⟨g, va, vb, h1, h2⟩
    rw [h1]
    refine ⟨_, rfl, ?_⟩
    simpa using h2
theorem un_xor {n : Int} : aunary .xor (.int .i64 n) = some (.int .i64 (Go.bits .xor .i64 (-1) n)) := eq_of_heq HEq.rfl
end
attribute [congr] onFunc_congr
attribute [go_sem] onFunc_func un_xor
attribute [go_sem ↓] o_callf betw_normal betw_ret betw_exit
end Go.Proofs.YtkgdkommahgakaaDoor.Abs
