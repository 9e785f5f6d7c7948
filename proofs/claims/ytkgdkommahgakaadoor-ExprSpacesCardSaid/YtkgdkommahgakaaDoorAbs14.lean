/- The abstract machine: what a run needs, told as a proposition that Lean's simplifier can work out. -/
import Derived.Test.YtkgdkommahgakaaDoorAbs13
namespace Go.Proofs.YtkgdkommahgakaaDoor.Abs
open Go Go.RowKit
set_option linter.unusedVariables false
set_option linter.unusedSimpArgs false

/-- A value is there, and of it ... -/
def thus {α : Type} (o : Option α) (K : α → Prop) : Prop := ∃ a, o = some a ∧ K a
theorem thus_some {α : Type} (a : α) (K : α → Prop) : thus (some a) K = K a := by simp [thus]

/-- A call comes back with a value of which ... -/
def CW (P : Program) (X : Ext) (f : FuncId) (args : List Value) (σ : Heap) (K : Value → Heap → Prop) : Prop :=
  enterable P f = true ∧ ∃ v σ', Run P X (.call f args) σ (.val v) σ' ∧ K v σ'
/-- The code comes to an end of which ... -/
def WC (P : Program) (X : Ext) (N : Nat) (c : Code) (T : Tm) (σ : Heap) (Q : AExit → Tm → Heap → Prop) : Prop :=
  ∃ e T' σ', Run P X (.code N c T) σ (.ex e T') σ' ∧ Q e T' σ'
def Side (ops : Array Oper) (k : Nat) (σ σ' : Heap) : Prop := σ <+: σ' ∨ loudOk ops k = true
/-- Every drawn region of the code bears any order. -/
def okDraws : Code → Bool
  | .region _ ops true => drawOk ops
  | .seq a b => okDraws a && okDraws b
  | .cond _ a b => okDraws a && okDraws b
  | .block _ c => okDraws c
  | .loop c => okDraws c
  | _ => true
def LW (P : Program) (X : Ext) (N : Nat) (c : Code) (T : Tm) (σ : Heap) (Q : AExit → Tm → Heap → Prop) : Prop := okDraws c = true → WC P X N (.loop c) T σ Q
def Quiet (P : Program) (o : Oper) (ops : Array Oper) (k : Nat) (T : Tm) (σ σ' : Heap) : Prop := heapFree o.op = true ∨ Side ops k σ σ' ∨ Late ops T

section
variable (P : Program) (X : Ext)
/-- One operation. -/
def vcOp (o : Op) (T : Tm) (σ : Heap) (K : Value → Heap → Prop) : Prop :=
  match o with
  | .call c => match c.callee with
    | .value g => thus (acallee (aev P T) c) fun p => CW P X p.1 p.2 σ K
    | .builtin _ => thus (aop P (aev P T) σ (.call c)) fun p => K p.1 p.2
    | .invoke _ _ => False
  | o => thus (aop P (aev P T) σ o) fun p => K p.1 p.2
def vcStep (ops : Array Oper) (o : Oper) (T : Tm) (σ : Heap) (K : Tm → Heap → Prop) : Prop :=
  thus (awanted ops T o) fun b => if b = true then vcOp P X o.op T σ fun v σ' => K (putT T o.dst v) σ' else K (putT T o.dst undef) σ
def vcOps (ops : Array Oper) : List Oper → Tm → Heap → (Tm → Heap → Prop) → Prop
  | [], T, σ, K => K T σ
  | o :: l, T, σ, K => vcStep P X ops o T σ fun T' σ' => vcOps ops l T' σ' K
def vcDraw (ops : Array Oper) : Nat → List Oper → Tm → Heap → (Tm → Heap → Prop) → Prop
  | _, [], T, σ, K => K T σ
  | k, o :: l, T, σ, K => vcStep P X ops o T σ fun T' σ' => Quiet P o ops k T σ σ' ∧ vcDraw ops (k + 1) l T' σ' K
def vc (N : Nat) : Code → Tm → Heap → (AExit → Tm → Heap → Prop) → Prop
  | .skip, T, σ, Q => Q .normal T σ
  | .exit id, T, σ, Q => Q (.exit id) T σ
  | .ret, T, σ, Q => Q .ret T σ
  | .seq a b, T, σ, Q => vc N a T σ fun e T' σ' => match e with
    | .normal => vc N b T' σ' Q
    | e => Q e T' σ'
  | .cond c x y, T, σ, Q => ∃ t, aev P T c = .bool t ∧ (t = true → vc N x T σ Q) ∧ (t = false → vc N y T σ Q)
  | .block id c, T, σ, Q => vc N c T σ fun e => Q (e.leave id)
  | .loop c, T, σ, Q => LW P X N c T σ Q
  | .region _ ops false, T, σ, Q => vcOps P X ops ops.toList T σ (Q .normal)
  | .region _ ops true, T, σ, Q => vcDraw P X ops 0 ops.toList T σ (Q .normal)
  | _, _, _, _ => False
end

section
variable {P : Program} {X : Ext}
theorem vcOp_run {o : Op} {T : Tm} {σ : Heap} {K : Value → Heap → Prop} (h : vcOp P X o T σ K) :
    ∃ v σ', K v σ' ∧ (aop P (aev P T) σ o = some (v, σ') ∨ ∃ c f args, o = .call c ∧ acallee (aev P T) c = some (f, args) ∧ enterable P f = true ∧ Run P X (.call f args) σ (.val v) σ') := by
  unfold vcOp at h
  split at h
  · split at h
    · obtain ⟨p, h1, h2, v, σ', h3, h4⟩ := h
      exact ⟨v, σ', h4, .inr ⟨_, _, _, rfl, h1, h2, h3⟩⟩
    · obtain ⟨p, h1, h2⟩ := h
      exact ⟨_, _, h2, .inl h1⟩
    · exact h.elim
  · obtain ⟨p, h1, h2⟩ := h
    exact ⟨_, _, h2, .inl h1⟩
theorem vcOps_run {N : Nat} {ops : Array Oper} : ∀ {l : List Oper} {k : Nat} {T : Tm} {σ : Heap} {K : Tm → Heap → Prop}, vcOps P X ops l T σ K → ∃ T' σ', Run P X (.ops N ops k l T) σ (.ex .normal T') σ' ∧ K T' σ'
  | [], _, T, σ, K, h => ⟨T, σ, .opsNil, h⟩
  | o :: l, k, T, σ, K, h => by
    unfold vcOps vcStep at h
    obtain ⟨b, hb, h⟩ := h
    split at h
    · rename_i hbt
      subst hbt
      obtain ⟨v, σ1, h1, h2⟩ := vcOp_run h
      obtain ⟨T', σ', h3, h4⟩ := vcOps_run h1
      refine ⟨T', σ', ?_, h4⟩
      rcases h2 with h2 | ⟨c, f, args, h5, h6, h7, h8⟩
      · exact .opsStep hb h2 h3
      · exact .opsCall hb h5 h6 h7 h8 h3
    · rename_i hbt
      have hb2 : b = false := by cases b <;> simp_all
      subst hb2
      obtain ⟨T', σ', h3, h4⟩ := vcOps_run h
      exact ⟨T', σ', .opsSkip hb h3, h4⟩
theorem vcDraw_run {N : Nat} {ops : Array Oper} : ∀ {l : List Oper} {k : Nat} {T : Tm} {σ : Heap} {K : Tm → Heap → Prop}, vcDraw P X ops k l T σ K → ∃ T' σ', Run P X (.draw N ops k l T) σ (.ex .normal T') σ' ∧ K T' σ'
  | [], _, T, σ, K, h => ⟨T, σ, .drawNil, h⟩
  | o :: l, k, T, σ, K, h => by
    unfold vcDraw vcStep at h
    obtain ⟨b, hb, h⟩ := h
    split at h
    · rename_i hbt
      subst hbt
      obtain ⟨v, σ1, ⟨hs, h1⟩, h2⟩ := vcOp_run h
      obtain ⟨T', σ', h3, h4⟩ := vcDraw_run h1
      unfold Quiet Side at hs
      refine ⟨T', σ', ?_, h4⟩
      rcases h2 with h2 | ⟨c, f, args, h5, h6, h7, h8⟩
      · exact .drawStep hb h2 (by rcases hs with hs | (hs | hs) | hs <;> simp [hs]) h3
      · refine .drawCall hb h5 h6 h7 h8 ?_ h3
        rcases hs with hs | hs
        · exfalso
          rw [h5] at hs
          obtain ⟨callee, as, ats⟩ := c
          cases callee with
          | value g => simp [heapFree] at hs
          | invoke r m => simp [acallee] at h6
          | builtin b => simp [acallee] at h6
        · exact or_assoc.1 hs
    · rename_i hbt
      have hb2 : b = false := by cases b <;> simp_all
      subst hb2
      obtain ⟨_, h⟩ := h
      obtain ⟨T', σ', h3, h4⟩ := vcDraw_run h
      exact ⟨T', σ', .drawSkip hb h3, h4⟩
theorem vc_run {N : Nat} : ∀ {c : Code} {T : Tm} {σ : Heap} {Q : AExit → Tm → Heap → Prop}, okDraws c = true → vc P X N c T σ Q → WC P X N c T σ Q
  | .skip, T, σ, Q, hd, h => ⟨_, _, _, .skip, h⟩
  | .exit id, T, σ, Q, hd, h => ⟨_, _, _, .exit, h⟩
  | .ret, T, σ, Q, hd, h => ⟨_, _, _, .ret, h⟩
  | .seq a b, T, σ, Q, hd, h => by
    simp only [okDraws, Bool.and_eq_true] at hd
    obtain ⟨e, T1, σ1, h1, h2⟩ := vc_run (c := a) hd.1 h
    cases e with
    | normal =>
      obtain ⟨e, T2, σ2, h3, h4⟩ := vc_run (c := b) hd.2 h2
      exact ⟨e, T2, σ2, .seqN h1 h3, h4⟩
    | exit id => exact ⟨_, T1, σ1, .seqX h1 (by simp), h2⟩
    | ret => exact ⟨_, T1, σ1, .seqX h1 (by simp), h2⟩
  | .cond c x y, T, σ, Q, hd, h => by
    simp only [okDraws, Bool.and_eq_true] at hd
    obtain ⟨t, h1, h2, h3⟩ := h
    cases t with
    | true =>
      obtain ⟨e, T2, σ2, h3, h4⟩ := vc_run (c := x) hd.1 (h2 rfl)
      exact ⟨e, T2, σ2, .cond h1 h3, h4⟩
    | false =>
      obtain ⟨e, T2, σ2, h3, h4⟩ := vc_run (c := y) hd.2 (h3 rfl)
      exact ⟨e, T2, σ2, .cond h1 h3, h4⟩
  | .block id c, T, σ, Q, hd, h => by
    obtain ⟨e, T1, σ1, h1, h2⟩ := vc_run (c := c) hd h
    exact ⟨_, T1, σ1, .block h1, h2⟩
  | .loop c, T, σ, Q, hd, h => h hd
  | .region _ ops false, T, σ, Q, hd, h => by
    obtain ⟨T', σ', h1, h2⟩ := vcOps_run h
    exact ⟨_, T', σ', .region h1, h2⟩
  | .region _ ops true, T, σ, Q, hd, h => by
    obtain ⟨T', σ', h1, h2⟩ := vcDraw_run h
    exact ⟨_, T', σ', .regionDraw hd h1, h2⟩

end
end Go.Proofs.YtkgdkommahgakaaDoor.Abs
