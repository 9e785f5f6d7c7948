/- The abstract machine: a stretch of code, cut in two: what holds in between. -/
import Derived.Test.YtkgdkommahgakaaDoorAbs16
namespace Go.Proofs.YtkgdkommahgakaaDoor.Abs
open Go Go.RowKit
set_option linter.unusedVariables false
set_option linter.unusedSimpArgs false

section
variable {P : Program} {X : Ext}
theorem thus_mono {α : Type} {o : Option α} {K K' : α → Prop} (h : thus o K) (hk : ∀ a, K a → K' a) : thus o K' := by
  obtain ⟨a, h1, h2⟩ := h
  exact ⟨a, h1, hk a h2⟩
theorem vcOp_mono {o : Op} {T : Tm} {σ : Heap} {K K' : Value → Heap → Prop} (h : vcOp P X o T σ K) (hk : ∀ v σ', K v σ' → K' v σ') : vcOp P X o T σ K' := by
  cases o with
  | call c =>
    obtain ⟨callee, as, ts⟩ := c
    cases callee with
    | value g => exact thus_mono h fun p hp => CW.mono hp hk
    | builtin b => exact thus_mono h fun p hp => hk _ _ hp
    | invoke r m => exact h.elim
  | _ => exact thus_mono h fun p hp => hk _ _ hp
theorem vcStep_mono {ops : Array Oper} {o : Oper} {T : Tm} {σ : Heap} {K K' : Tm → Heap → Prop} (h : vcStep P X ops o T σ K) (hk : ∀ T' σ', K T' σ' → K' T' σ') : vcStep P X ops o T σ K' := by
  unfold vcStep at h ⊢
  refine thus_mono h fun b hb => ?_
  split at hb
  · rename_i hbt
    rw [if_pos hbt]
    exact vcOp_mono hb fun v σ' hh => hk _ _ hh
  · rename_i hbt
    rw [if_neg hbt]
    exact hk _ _ hb
theorem vcOps_mono {ops : Array Oper} : ∀ {l : List Oper} {T : Tm} {σ : Heap} {K K' : Tm → Heap → Prop}, vcOps P X ops l T σ K → (∀ T' σ', K T' σ' → K' T' σ') → vcOps P X ops l T σ K'
  | [], _, _, _, _, h, hk => hk _ _ h
  | o :: l, _, _, _, _, h, hk => by
    unfold vcOps at h ⊢
    exact vcStep_mono h fun T' σ' hh => vcOps_mono hh hk
theorem vcDraw_mono {ops : Array Oper} : ∀ {k : Nat} {l : List Oper} {T : Tm} {σ : Heap} {K K' : Tm → Heap → Prop}, vcDraw P X ops k l T σ K → (∀ T' σ', K T' σ' → K' T' σ') → vcDraw P X ops k l T σ K'
  | _, [], _, _, _, _, h, hk => hk _ _ h
  | k, o :: l, _, _, _, _, h, hk => by
    unfold vcDraw at h ⊢
    exact vcStep_mono h fun T' σ' hh => ⟨hh.1, vcDraw_mono hh.2 hk⟩
theorem vc_mono {N : Nat} : ∀ {c : Code} {T : Tm} {σ : Heap} {Q Q' : AExit → Tm → Heap → Prop}, vc P X N c T σ Q → (∀ e T' σ', Q e T' σ' → Q' e T' σ') → vc P X N c T σ Q'
  | .skip, _, _, _, _, h, hk => hk _ _ _ h
  | .exit id, _, _, _, _, h, hk => hk _ _ _ h
  | .ret, _, _, _, _, h, hk => hk _ _ _ h
  | .seq a b, _, _, _, _, h, hk => by
    rw [v_seq] at h ⊢
    refine vc_mono (c := a) h fun e T' σ' hh => ?_
    cases e with
    | normal => exact vc_mono (c := b) hh hk
    | exit id => exact hk _ _ _ hh
    | ret => exact hk _ _ _ hh
  | .cond c x y, _, _, _, _, h, hk => by
    obtain ⟨t, h1, h2, h3⟩ := h
    exact ⟨t, h1, fun ht => vc_mono (c := x) (h2 ht) hk, fun ht => vc_mono (c := y) (h3 ht) hk⟩
  | .block id c, _, _, _, _, h, hk => vc_mono (c := c) h fun e T' σ' hh => hk _ _ _ hh
  | .loop c, _, _, _, _, h, hk => fun hd => (h hd).mono hk
  | .region _ ops false, _, _, _, _, h, hk => vcOps_mono h fun T' σ' hh => hk _ _ _ hh
  | .region _ ops true, _, _, _, _, h, hk => vcDraw_mono h fun T' σ' hh => hk _ _ _ hh
/-- Between two parts. -/
def betw (mid : Tm → Heap → Prop) (Q : AExit → Tm → Heap → Prop) : AExit → Tm → Heap → Prop
  | .normal, T, σ => mid T σ
  | e, T, σ => Q e T σ
theorem betw_normal {mid : Tm → Heap → Prop} {Q : AExit → Tm → Heap → Prop} {T : Tm} {σ : Heap} : betw mid Q .normal T σ = mid T σ := eq_of_heq HEq.rfl
theorem betw_ret {mid : Tm → Heap → Prop} {Q : AExit → Tm → Heap → Prop} {T : Tm} {σ : Heap} : betw mid Q .ret T σ = Q .ret T σ := eq_of_heq HEq.rfl
theorem betw_exit {mid : Tm → Heap → Prop} {Q : AExit → Tm → Heap → Prop} {T : Tm} {σ : Heap} {id : Nat} : betw mid Q (.exit id) T σ = Q (.exit id) T σ := eq_of_heq HEq.rfl
/-- The first part's end, whatever it is, and the second part from there on. -/
theorem vc_cut {N : Nat} {a b : Code} {T : Tm} {σ : Heap} {Q : AExit → Tm → Heap → Prop} (mid : Tm → Heap → Prop) (h : vc P X N a T σ (betw mid Q)) (h2 : ∀ T' σ', mid T' σ' → vc P X N b T' σ' Q) : vc P X N (.seq a b) T σ Q := by
  rw [v_seq]
  refine vc_mono h fun e T' σ' hh => ?_
  cases e with
  | normal => exact h2 _ _ hh
  | exit id => exact hh
  | ret => exact hh
/-- The same, where the first part stands behind others. -/
theorem seq_seq {N : Nat} {a b c : Code} {T : Tm} {σ : Heap} {Q : AExit → Tm → Heap → Prop} : vc P X N (.seq a (.seq b c)) T σ Q = vc P X N (.seq (.seq a b) c) T σ Q := by
  rw [v_seq, v_seq, v_seq]
  congr 1
  funext e T' σ'
  cases e with
  | normal => rw [after_normal, after_normal, v_seq]
  | exit id => rw [after_exit, after_exit, after_exit]
  | ret => rw [after_ret, after_ret, after_ret]
/-- A call of a function value. -/
def onFunc (v : Value) (K : FuncId → Array Value → Array Value → Prop) : Prop := ∃ g va vb, v = .func (.func g) va vb ∧ K g va vb
theorem onFunc_func {g : FuncId} {va vb : Array Value} {K : FuncId → Array Value → Array Value → Prop} : onFunc (.func (.func g) va vb) K = K g va vb := by
  apply propext
  constructor
  · rintro ⟨g', va', vb', h, hk⟩
    cases h
    exact hk
  · exact fun h => ⟨g, va, vb, rfl, h⟩
theorem onFunc_congr {v v' : Value} {K : FuncId → Array Value → Array Value → Prop} (h : here v = v') : onFunc v K = onFunc v' K := by rw [← h]; rfl
theorem o_callf {T : Tm} {σ : Heap} {K : Value → Heap → Prop} {t : Tmp} {as : Array Operand} {ts : Array TypeId} : vcOp P X (.call ⟨.value (.tmp t), as, ts⟩) T σ K = onFunc (T t) fun g va vb => CW P X g (va.toList ++ as.toList.map (aev P T) ++ vb.toList) σ K := by
  apply propext
  simp only [vcOp, acallee, aev, thus, onFunc]
  constructor
  · rintro ⟨p, h1, h2⟩
    split at h1
    · rename_i g first captured hT
      obtain rfl := Option.some.inj h1
      refine ⟨g, first, captured, hT, ?_⟩
      simpa using h2
    · simp at h1
  · rintro ⟨g, va, vb, h1, h2⟩
    rw [h1]
    refine ⟨_, rfl, ?_⟩
    simpa using h2
theorem un_xor {n : Int} : aunary .xor (.int .i64 n) = some (.int .i64 (Go.bits .xor .i64 (-1) n)) := eq_of_heq HEq.rfl
end
attribute [congr] onFunc_congr
attribute [go_sem] onFunc_func un_xor
attribute [go_sem ↓] o_callf betw_normal betw_ret betw_exit
end Go.Proofs.YtkgdkommahgakaaDoor.Abs
