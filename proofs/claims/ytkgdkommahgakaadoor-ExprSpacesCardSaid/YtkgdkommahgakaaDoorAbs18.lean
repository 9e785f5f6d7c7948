/- The abstract machine: from a run there to a claim's row. -/
import Derived.Test.YtkgdkommahgakaaDoorAbs17
namespace Go.Proofs.YtkgdkommahgakaaDoor.Abs
open Go Go.RowKit
set_option linter.unusedVariables false
set_option linter.unusedSimpArgs false

/-- No function is told from outside. -/
def noExt : Ext := fun _ _ _ _ _ => False
def heap0 (P : Program) : Heap := List.replicate P.globals.size none
def map0 (P : Program) : Map := fun n => if n < P.globals.size then some ⟨n, 0, 0, false, 0⟩ else none
theorem fo0 (P : Program) (w : World) : Fo P.globals.size (map0 P) (heap0 P) w where
  holds n cb b hn hl := by
    have : look (heap0 P) n = none := by
      unfold look heap0
      rw [List.getElem?_replicate]
      split <;> rfl
    rw [this] at hl
    simp at hl
  own n cb h := by
    unfold map0 at h
    split at h
    · obtain rfl := Option.some.inj h; rfl
    · simp at h
  fresh n hn := by
    simp only [heap0, List.length_replicate] at hn
    exact if_neg (by omega)
  glob g hg := ⟨_, if_pos hg, rfl, rfl⟩
theorem len0 (P : Program) : P.globals.size ≤ (heap0 P).length := by simp [heap0]

theorem Fo.sim {G : Nat} {β : Map} {σ : Heap} {w : World} (h : Fo G β σ w) : Sim w.heap.size G β σ w :=
  ⟨Nat.le_refl _, h.holds, fun n cb b hn hl ho => by rw [h.own n cb hn] at ho; simp at ho, fun n m cb cb' b b' _ hn _ _ _ ho => by rw [h.own n cb hn] at ho; simp at ho, h.glob⟩

/-- **A law that answers true on the abstract machine answers true, and touches nothing that was there.** -/
theorem law_calls {P : Program} (hm : P.follows .mixedOrders = true) {X : Ext} (hX : ∀ f args σ v σ', X f args σ v σ' → ∀ base, CallSound P base f args σ v σ' ∧ σ.length ≤ σ'.length) {f : FuncId} {args : List Value} {cargs : Array Value} {σ : Heap} {β : Map} {w : World}
    (h : CW P X f args σ fun v _ => v = .bool true) (hrel : RelL β args cargs.toList) (hf : Fo P.globals.size β σ w) : Calls P f cargs w fun e w' => e = .returned (.bool true) ∧ Below w.heap.size w w' := by
  obtain ⟨_, v, σ', h1, rfl⟩ := h
  have := run_sound (base := w.heap.size) hm (fun f args σ v σ' h => hX f args σ v σ' h _) h1
  refine (this β w cargs hrel hf.sim fun n hn _ => hf.fresh n hn).mono fun e w' hh => ?_
  obtain ⟨β', v', rfl, h2, h3, h4⟩ := hh
  rw [h2.bool_inv]
  exact ⟨rfl, h4.below hf.sim⟩
theorem noExt_sound {P : Program} : ∀ f args σ v σ', noExt f args σ v σ' → ∀ base, CallSound P base f args σ v σ' ∧ σ.length ≤ σ'.length := fun _ _ _ _ _ h => h.elim

/-! ### what is read at a type -/
def ftypes (P : Program) (t : TypeId) : Option (List TypeId) := match P.underlying t with
  | some (.struct fs) => some (fs.toList.map (·.type))
  | _ => none
def elemOf (P : Program) (t : TypeId) : Option TypeId := match P.underlying t with
  | some (.slice e) => some e
  | _ => none
section
variable {P : Program} {σ : Heap} {d : Nat} {t e : TypeId} {as : List Value}
theorem RD_int {k : IntKind} (h : P.underlying t = some (.int k)) (hr : RD P σ d t as) : ∃ n, as = [.int k n] ∧ (Lit.int k n).wf = true := by
  cases d with
  | zero => exact hr.elim
  | succ d => unfold RD at hr; rw [h] at hr; exact hr
theorem RD_bool (h : P.underlying t = some .bool) (hr : RD P σ d t as) : ∃ b, as = [.bool b] := by
  cases d with
  | zero => exact hr.elim
  | succ d => unfold RD at hr; rw [h] at hr; exact hr
theorem RD_string (h : P.underlying t = some .string) (hr : RD P σ d t as) : ∃ s, as = [.string s] ∧ s.size ≤ 140737488351232 := by
  cases d with
  | zero => exact hr.elim
  | succ d => unfold RD at hr; rw [h] at hr; exact hr
theorem RD_struct {ts : List TypeId} (h : ftypes P t = some ts) (hr : RD P σ d t as) : ∃ d', RDF P (RD P σ d') ts as := by
  cases d with
  | zero => exact hr.elim
  | succ d =>
    unfold ftypes at h
    unfold RD at hr
    split at h
    · rename_i fs hfs
      rw [hfs] at hr
      exact ⟨d, Option.some.inj h ▸ hr⟩
    · simp at h
theorem RDF_cons {rd : TypeId → List Value → Prop} {ts : List TypeId} {C : Nat} (hC : P.cellsOf t = C) (hr : RDF P rd (t :: ts) as) : rd t (as.take C) ∧ C ≤ as.length ∧ RDF P rd ts (as.drop C) := hC ▸ hr

theorem chunks {α : Type} (f : α → List Value) (Q : α → Prop) {C : Nat} (hC : ∀ a, (f a).length = C) : ∀ (len : Nat) (cells : List Value), cells.length = len * C → (∀ i, i < len → ∃ a, (cells.drop (i * C)).take C = f a ∧ Q a) → ∃ L : List α, L.length = len ∧ cells = L.flatMap f ∧ ∀ a ∈ L, Q a
  | 0, cells, hl, _ => ⟨[], rfl, by simpa using hl, by simp⟩
  | len + 1, cells, hl, h => by
    obtain ⟨a, ha, hq⟩ := h 0 (by omega)
    have hs : (len + 1) * C = C + len * C := by rw [Nat.add_mul, Nat.one_mul, Nat.add_comm]
    obtain ⟨L, h1, h2, h3⟩ := chunks f Q hC len (cells.drop C) (by rw [List.length_drop, hl, hs]; omega) fun i hi => by
      obtain ⟨b, hb, hqb⟩ := h (i + 1) (by omega)
      refine ⟨b, ?_, hqb⟩
      rw [List.drop_drop, ← hb]
      congr 2
      rw [Nat.add_mul, Nat.one_mul, Nat.add_comm]
    refine ⟨a :: L, by simp [h1], ?_, fun b hb => ?_⟩
    · rw [List.flatMap_cons, ← h2, ← ha]
      simp
    · rcases List.mem_cons.1 hb with rfl | hb
      · exact hq
      · exact h3 b hb
/-- A slice that is read: its elements, as what they are. -/
theorem RD_slice {α : Type} (f : α → List Value) (Q : α → Prop) {C B : Nat} (h : elemOf P t = some e) (hc : P.cellsOf e = C) (hb : P.bytesOf e = B) (hC : ∀ a, (f a).length = C) (hr : RD P σ d t as)
    (he : ∀ d' cs, RD P σ d' e cs → ∃ a, cs = f a ∧ Q a) : ∃ (n : Nat) (L : List α), as = [.slice (some ⟨n, 0, none⟩) L.length (L.length + 1)] ∧ look σ n = some ⟨L.flatMap f, false, C⟩ ∧ L.length * B ≤ 140737488351232 ∧ ∀ a ∈ L, Q a := by
  cases d with
  | zero => exact hr.elim
  | succ d =>
    unfold elemOf at h
    unfold RD at hr
    split at h
    · rename_i e' he'
      obtain rfl := Option.some.inj h
      rw [he'] at hr
      obtain ⟨n, len, cells, rfl, h2, h3, h4, h5⟩ := hr
      rw [hc] at h3 h4 h5
      rw [hb] at h2
      obtain ⟨L, rfl, rfl, hq⟩ := chunks f Q hC len cells h4 fun i hi => by
        obtain ⟨a, ha, hqa⟩ := he d _ (h5 i hi)
        exact ⟨a, ha, hqa⟩
      exact ⟨n, L, rfl, h3, h2, hq⟩
    · simp at h
theorem flatMap_single {α : Type} (g : α → Value) (L : List α) : (L.flatMap fun a => [g a]) = L.map g := by
  induction L with
  | nil => rfl
  | cons a L ih => simp [ih]
end

/-- One more argument. -/
theorem open_arg {H : Type} {enc : TypeId × Value → H} {P : Program} {w : World} {held : Bool} {t : TypeId} {v : Value} {x : DataW H} {ps : List MemPlace} {ts : List TypeId} {ds : List (DataW H)} {j d : Nat} {β : Map} {σ : Heap}
    (hsz : (DataW.weightsEach P ts ds).all (· ≤ reachBytes) = true) (hj : ts[j]? = some t) (hdj : ds[j]? = some x) (hok : okT P d t = true) (hv : v.cells.toList = [v])
    (h : DataW.Trod enc P w 0 (fun _ => true) held t v x ps) (hf : Fo P.globals.size β σ w) (hG : P.globals.size ≤ σ.length) :
    ∃ β' σ' a, Fo P.globals.size β' σ' w ∧ P.globals.size ≤ σ'.length ∧ σ <+: σ' ∧ (∀ n c, β n = some c → β' n = some c) ∧ Rel β' a v ∧ RD P σ' d t [a] := by
  obtain ⟨fuel, hfu⟩ := h
  obtain ⟨β', σ', as, h1, h2, h3, h4, h5, h6⟩ := open_val (fun _ => rfl) d t fuel _ _ β σ hok hfu (fun m hm => by
    have := List.all_eq_true.1 hsz m (DataW.weights_mem_each hj hdj m hm)
    simpa using this) hf hG
  rw [hv] at h4
  obtain ⟨a, rfl⟩ : ∃ a, as = [a] := by
    match as, h4.length with
    | [a], _ => exact ⟨a, rfl⟩
  cases h4 with
  | cons _ _ _ _ hr _ => exact ⟨β', σ', a, h1, Nat.le_trans hG h2.length_le, h2, h3, hr, h6⟩
end Go.Proofs.YtkgdkommahgakaaDoor.Abs
