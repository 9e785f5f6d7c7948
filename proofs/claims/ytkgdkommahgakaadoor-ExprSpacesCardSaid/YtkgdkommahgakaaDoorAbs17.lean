/- The abstract machine: what a row's reading of an argument is as blocks of the abstract heap. -/
import Derived.Test.YtkgdkommahgakaaDoorAbs16
import Derived.ChangeArms
import Derived.SizedLaws
namespace Go.Proofs.YtkgdkommahgakaaDoor.Abs
open Go Go.RowKit
set_option linter.unusedVariables false
set_option linter.unusedSimpArgs false

/-- A heap of blocks that are not the call's own, and the world. -/
structure Fo (G : Nat) (β : Map) (σ : Heap) (w : World) : Prop where
  holds : ∀ n cb b, β n = some cb → look σ n = some b → Holds β cb b w
  own : ∀ n cb, β n = some cb → cb.own = false
  fresh : ∀ n, σ.length ≤ n → β n = none
  glob : ∀ g, g < G → ∃ cb, β g = some cb ∧ cb.blk = g ∧ cb.off = 0

section
variable (P : Program)
def okFs (ok : TypeId → Bool) : List Field → Nat → Nat → Bool
  | [], off, total => off == total
  | f :: fs, off, total => f.offset == off && ok f.type && okFs ok fs (off + P.cellsOf f.type) total
def okT : Nat → TypeId → Bool
  | 0, _ => false
  | d + 1, t => match P.underlying t with
    | some .bool => P.cellsOf t == 1
    | some (.int _) => P.cellsOf t == 1
    | some .string => P.cellsOf t == 1
    | some (.slice e) => P.cellsOf t == 1 && okT d e && decide (0 < P.cellsOf e)
    | some (.struct fs) => okFs P (okT d) fs.toList 0 (P.cellsOf t)
    | _ => false
def RDF (rd : TypeId → List Value → Prop) : List TypeId → List Value → Prop
  | [], as => as = []
  | t :: ts, as => rd t (as.take (P.cellsOf t)) ∧ P.cellsOf t ≤ as.length ∧ RDF rd ts (as.drop (P.cellsOf t))
/-- Cells of the abstract machine that are a value of a type, as a claim reads it. -/
def RD (σ : Heap) : Nat → TypeId → List Value → Prop
  | 0, _, _ => False
  | d + 1, t, as => match P.underlying t with
    | some .bool => ∃ b, as = [.bool b]
    | some (.int k) => ∃ n, as = [.int k n] ∧ (Lit.int k n).wf = true
    | some .string => ∃ s, as = [.string s] ∧ s.size ≤ 140737488351232
    | some (.slice e) => ∃ n len cells, as = [.slice (some ⟨n, 0, none⟩) len (len + 1)] ∧ len * P.bytesOf e ≤ 140737488351232 ∧ look σ n = some ⟨cells, false, P.cellsOf e⟩ ∧ cells.length = len * P.cellsOf e ∧
        ∀ i, i < len → RD σ d e ((cells.drop (i * P.cellsOf e)).take (P.cellsOf e))
    | some (.struct fs) => RDF P (RD σ d) (fs.toList.map (·.type)) as
    | _ => False
end

section
variable {P : Program}
theorem RDF.mono {rd rd' : TypeId → List Value → Prop} (h : ∀ t as, rd t as → rd' t as) : ∀ {fs : List TypeId} {as : List Value}, RDF P rd fs as → RDF P rd' fs as
  | [], _, hr => hr
  | f :: fs, as, hr => ⟨h _ _ hr.1, hr.2.1, RDF.mono h hr.2.2⟩
theorem RD.mono {σ σ' : Heap} (hp : σ <+: σ') : ∀ {d : Nat} {t : TypeId} {as : List Value}, RD P σ d t as → RD P σ' d t as
  | 0, _, _, h => h
  | d + 1, t, as, h => by
    unfold RD at h ⊢
    split at h
    · exact h
    · exact h
    · exact h
    · obtain ⟨n, len, cells, h1, h2, h3, h4, h5⟩ := h
      exact ⟨n, len, cells, h1, h2, look_prefix hp h3, h4, fun i hi => (h5 i hi).mono hp⟩
    · exact RDF.mono (fun t as => RD.mono hp) h
    · exact h

/-- One more block. -/
theorem Fo.add {G : Nat} {β : Map} {σ : Heap} {w : World} (h : Fo G β σ w) (hG : G ≤ σ.length) {cb : CB} {b : Blk} (hb : Holds β cb b w) (ho : cb.own = false) :
    Fo G (fun n => if n = σ.length then some cb else β n) (σ ++ [some b]) w ∧ ∀ n c, β n = some c → (if n = σ.length then some cb else β n) = some c := by
  have hsub : ∀ n c, β n = some c → (if n = σ.length then some cb else β n) = some c := fun n c hn => by
    rw [if_neg]
    · exact hn
    · rintro rfl
      rw [h.fresh _ (Nat.le_refl _)] at hn
      simp at hn
  refine ⟨⟨fun n c b' hn hl => ?_, fun n c hn => ?_, fun n hn => ?_, fun g hg => ?_⟩, hsub⟩
  · by_cases he : n = σ.length
    · subst he
      simp only [if_true, Option.some.injEq] at hn
      subst hn
      rw [look_app_new, look_zero] at hl
      obtain rfl := Option.some.inj hl
      exact hb.later hsub rfl
    · simp only [if_neg he] at hn
      have hlt : n < σ.length := by
        rcases Nat.lt_or_ge n σ.length with h' | h'
        · exact h'
        · rw [h.fresh n h'] at hn; simp at hn
      rw [look_app_lt hlt] at hl
      exact (h.holds n c b' hn hl).later hsub rfl
  · by_cases he : n = σ.length
    · subst he
      simp only [if_true, Option.some.injEq] at hn
      exact hn ▸ ho
    · simp only [if_neg he] at hn
      exact h.own n c hn
  · simp only [List.length_append, List.length_cons, List.length_nil] at hn
    rw [if_neg (by omega)]
    exact h.fresh n (by omega)
  · obtain ⟨c, h1, h2⟩ := h.glob g hg
    exact ⟨c, hsub _ _ h1, h2⟩

section
variable {H : Type} {enc : TypeId × Value → H} {w : World} {spare : Nat → Bool} {held : Bool} {G : Nat}

def Opened (G : Nat) (w : World) (β : Map) (σ : Heap) (cs : List Value) (R : Heap → List Value → Prop) : Prop :=
  ∃ β' σ' as, Fo G β' σ' w ∧ σ <+: σ' ∧ (∀ n c, β n = some c → β' n = some c) ∧ RelL β' as cs ∧ (∀ v ∈ as, v.oneCell' = true) ∧ R σ' as

theorem add_add' (a : Addr) (m n : Nat) : (a.add m).add n = a.add (m + n) := by
  unfold Addr.add
  by_cases hm : m = 0
  · simp [hm]
  · by_cases hn : n = 0
    · simp [hm, hn]
    · simp [hm, hn, Nat.add_assoc]
theorem add_block (a : Addr) (i : Nat) : (a.add i).block = a.block := by unfold Addr.add; split <;> rfl
theorem add_off (a : Addr) (i : Nat) : (a.add i).off = a.off + i := by unfold Addr.add; split <;> simp_all
theorem add_spot (a : Addr) (i : Nat) (h : a.spot = none) : (a.add i).spot = none := by unfold Addr.add; split <;> simp_all
theorem weightsAll_mem {H : Type} {P : Program} {e : TypeId} : ∀ (ds : List (DataW H)) (i : Nat) (d : DataW H), ds[i]? = some d → ∀ n ∈ d.weights P e, n ∈ DataW.weightsAll P e ds
  | [], _, _, h, _, _ => by simp at h
  | d0 :: r, 0, d, h, n, hn => by
    simp only [List.getElem?_cons_zero, Option.some.injEq] at h
    subst h
    simp only [DataW.weightsAll, List.mem_append]
    exact .inl hn
  | d0 :: r, i + 1, d, h, n, hn => by
    simp only [List.getElem?_cons_succ] at h
    simp only [DataW.weightsAll, List.mem_append]
    exact .inr (weightsAll_mem r i d h n hn)

/-- The fields of a struct, one behind the other. -/
theorem open_fields {d : Nat} (ih : ∀ (t : TypeId) (fuel : Nat) (cs : List Value) (x : DataW H × List MemPlace) (β : Map) (σ : Heap), okT P d t = true → DataW.trod enc P w 0 spare held fuel t cs = some x → (∀ n ∈ x.1.weights P t, n ≤ reachBytes) → Fo G β σ w → G ≤ σ.length →
      Opened G w β σ cs fun σ' as => RD P σ' d t as) {fuel : Nat} {cs : List Value} : ∀ (fs : List Field) (off : Nat) (xs : List (DataW H × List MemPlace)) (β : Map) (σ : Heap), okFs P (okT P d) fs off cs.length = true → off ≤ cs.length → xs.length = fs.length →
      (∀ (i : Nat) (f : Field), fs[i]? = some f → DataW.trod enc P w 0 spare held fuel f.type ((cs.drop f.offset).take (P.cellsOf f.type)) = xs[i]?) →
      (∀ n ∈ DataW.weightsEach P (fs.map (·.type)) (xs.map (·.1)), n ≤ reachBytes) → Fo G β σ w → G ≤ σ.length → Opened G w β σ (cs.drop off) fun σ' as => RDF P (RD P σ' d) (fs.map (·.type)) as
  | [], off, xs, β, σ, hok, hoff, hl, hx, hw, hf, hG => by
    simp only [okFs, beq_iff_eq] at hok
    refine ⟨β, σ, [], hf, List.prefix_rfl, fun _ _ h => h, ?_, by simp, rfl⟩
    rw [List.drop_eq_nil_of_le (by omega)]
    exact .nil
  | f :: fs, off, xs, β, σ, hok, hoff, hl, hx, hw, hf, hG => by
    obtain ⟨y, ys, rfl⟩ : ∃ y ys, xs = y :: ys := by
      match xs, hl with
      | y :: ys, _ => exact ⟨y, ys, rfl⟩
    simp only [okFs, Bool.and_eq_true, beq_iff_eq] at hok
    obtain ⟨⟨ho, hokt⟩, hoks⟩ := hok
    have h0 := hx 0 f rfl
    have hwy : ∀ n ∈ y.1.weights P f.type, n ≤ reachBytes := fun n hn => hw n (by simp [DataW.weightsEach, hn])
    obtain ⟨β1, σ1, as1, k1, k2, k3, k4, k5, k6⟩ := ih f.type fuel _ y β σ hokt (by simpa using h0) hwy hf hG
    have hroom : off + P.cellsOf f.type ≤ cs.length := by
      clear hx hl hw h0
      have : ∀ (fs : List Field) (a : Nat), okFs P (okT P d) fs a cs.length = true → a ≤ cs.length := by
        intro fs
        induction fs with
        | nil => intro a h; simp only [okFs, beq_iff_eq] at h; omega
        | cons g gs ihg =>
          intro a h
          simp only [okFs, Bool.and_eq_true] at h
          have := ihg _ h.2
          omega
      exact this _ _ hoks
    obtain ⟨β2, σ2, as2, l1, l2, l3, l4, l5, l6⟩ := open_fields ih fs (off + P.cellsOf f.type) ys β1 σ1 hoks hroom (by simpa using hl) (fun i g hg => by have := hx (i + 1) g (by simpa using hg); simpa using this)
      (fun n hn => hw n (by simp only [List.map_cons, DataW.weightsEach, List.mem_append]; exact .inr hn)) k1 (Nat.le_trans hG k2.length_le)
    have hlen : as1.length = P.cellsOf f.type := by
      rw [k4.length, ho, List.length_take, List.length_drop]
      omega
    refine ⟨β2, σ2, as1 ++ as2, l1, k2.trans l2, fun n c h => l3 n c (k3 n c h), ?_, ?_, ?_⟩
    · have e : cs.drop off = (cs.drop off).take (P.cellsOf f.type) ++ cs.drop (off + P.cellsOf f.type) := by
        rw [← List.drop_drop]
        exact (List.take_append_drop _ _).symm
      rw [e]
      rw [ho] at k4
      exact (k4.mono l3).append l4
    · intro v hv
      rcases List.mem_append.1 hv with hv | hv
      · exact k5 v hv
      · exact l5 v hv
    · refine ⟨?_, by simp [hlen], ?_⟩
      · show RD P σ2 d f.type ((as1 ++ as2).take (P.cellsOf f.type))
        rw [List.take_append_of_le_length (by omega), List.take_of_length_le (by omega)]
        exact k6.mono l2
      · show RDF P (RD P σ2 d) (fs.map (·.type)) ((as1 ++ as2).drop (P.cellsOf f.type))
        rw [List.drop_append_of_le_length (by omega), List.drop_eq_nil_of_le (by omega), List.nil_append]
        exact l6

/-- The elements of a slice, one behind the other. -/
theorem open_elems {d : Nat} {e : TypeId} (ih : ∀ (fuel : Nat) (cs : List Value) (x : DataW H × List MemPlace) (β : Map) (σ : Heap), DataW.trod enc P w 0 spare held fuel e cs = some x → (∀ n ∈ x.1.weights P e, n ≤ reachBytes) → Fo G β σ w → G ≤ σ.length →
      Opened G w β σ cs fun σ' as => RD P σ' d e as) {fuel : Nat} {C : Nat} (hC : P.cellsOf e = C) {a : Addr} : ∀ (m : Nat) (elems : List (DataW H × List MemPlace)) (β : Map) (σ : Heap), m ≤ elems.length →
      (∀ i, i < m → (w.cells? 0 (a.add (i * C)) C).bind (DataW.trod enc P w 0 spare held fuel e) = elems[i]?) →
      (∀ (i : Nat) (y : DataW H × List MemPlace), elems[i]? = some y → ∀ n ∈ y.1.weights P e, n ≤ reachBytes) → Fo G β σ w → G ≤ σ.length →
      ∃ cs : List Value, cs.length = m * C ∧ (∀ j v, cs[j]? = some v → w.cell? (a.add j) = some v) ∧ Opened G w β σ cs fun σ' as => ∀ i, i < m → RD P σ' d e ((as.drop (i * C)).take C)
  | 0, elems, β, σ, hm, hx, hw, hf, hG => ⟨[], by simp, fun j v h => by simp at h, β, σ, [], hf, List.prefix_rfl, fun _ _ h => h, .nil, by simp, fun i hi => by omega⟩
  | m + 1, elems, β, σ, hm, hx, hw, hf, hG => by
    obtain ⟨cs, c1, c2, β1, σ1, as, k1, k2, k3, k4, k5, k6⟩ := open_elems ih hC m elems β σ (by omega) (fun i hi => hx i (by omega)) hw hf hG
    have h1 := hx m (by omega)
    obtain ⟨y, hy⟩ : ∃ y, elems[m]? = some y := ⟨_, List.getElem?_eq_getElem (by omega)⟩
    rw [hy, Option.bind_eq_some_iff] at h1
    obtain ⟨cs', hcs, hy'⟩ := h1
    obtain ⟨_, hcl, hcell⟩ := World.cells?_some hcs
    obtain ⟨β2, σ2, as2, l1, l2, l3, l4, l5, l6⟩ := ih fuel cs' y β1 σ1 hy' (hw m y hy) k1 (Nat.le_trans hG k2.length_le)
    have hal : as.length = m * C := by rw [k4.length, c1]
    have hal2 : as2.length = C := by rw [l4.length, hcl]
    have hms : (m + 1) * C = m * C + C := by rw [Nat.add_mul, Nat.one_mul]
    refine ⟨cs ++ cs', by simp [c1, hcl, hms], fun j v hv => ?_, β2, σ2, as ++ as2, l1, k2.trans l2, fun n c h => l3 n c (k3 n c h), (k4.mono l3).append l4, ?_, fun i hi => ?_⟩
    · rcases Nat.lt_or_ge j (m * C) with hj | hj
      · rw [List.getElem?_append_left (by omega)] at hv
        exact c2 j v hv
      · rw [List.getElem?_append_right (by omega), c1] at hv
        have hj2 := (List.getElem?_eq_some_iff.1 hv).1
        have h2 := hcell (j - m * C) (by omega)
        rw [hv, add_add'] at h2
        rw [← h2]
        congr 2
        omega
    · intro v hv
      rcases List.mem_append.1 hv with hv | hv
      · exact k5 v hv
      · exact l5 v hv
    · by_cases hi2 : i < m
      · have hle : i * C + C ≤ m * C := by
          have := Nat.mul_le_mul_right C (show i + 1 ≤ m by omega)
          rw [Nat.add_mul, Nat.one_mul] at this
          exact this
        rw [List.drop_append_of_le_length (by omega), List.take_append_of_le_length (by rw [List.length_drop]; omega)]
        exact (k6 i hi2).mono l2
      · have e : i = m := by omega
        subst e
        rw [List.drop_append_of_le_length (by omega), List.drop_eq_nil_of_le (by omega), List.nil_append, List.take_of_length_le (by omega)]
        exact l6

theorem Opened.flat {β : Map} {σ : Heap} {v : Value} {R : Heap → List Value → Prop} (hf : Fo G β σ w) (hv : scal v = true) (ho : v.oneCell' = true) (hR : R σ [v]) : Opened G w β σ [v] R :=
  ⟨β, σ, [v], hf, List.prefix_rfl, fun _ _ h => h, .single (.scal v hv), by simpa using ho, hR⟩

/-- **What a claim reads, as blocks of the abstract heap.** -/
theorem open_val (hs : ∀ b, spare b = true) : ∀ (d : Nat) (t : TypeId) (fuel : Nat) (cs : List Value) (x : DataW H × List MemPlace) (β : Map) (σ : Heap), okT P d t = true → DataW.trod enc P w 0 spare held fuel t cs = some x → (∀ n ∈ x.1.weights P t, n ≤ reachBytes) → Fo G β σ w → G ≤ σ.length →
    Opened G w β σ cs fun σ' as => RD P σ' d t as
  | 0, t, fuel, cs, x, β, σ, hok, h, hw, hf, hG => by simp [okT] at hok
  | d + 1, t, fuel, cs, x, β, σ, hok, h, hw, hf, hG => by
    unfold okT at hok
    split at hok
    · rename_i ht
      obtain ⟨b, rfl, rfl⟩ := DataW.trod_bool ht h
      exact Opened.flat hf rfl rfl (by unfold RD; rw [ht]; exact ⟨b, rfl⟩)
    · rename_i k ht
      obtain ⟨n, rfl, rfl, hwf⟩ := DataW.trod_int ht h
      exact Opened.flat hf rfl rfl (by unfold RD; rw [ht]; exact ⟨n, rfl, hwf⟩)
    · rename_i ht
      obtain ⟨s, rfl, rfl, _⟩ := DataW.trod_string ht h
      have hsz : s.size ≤ 140737488351232 := by
        have := hw s.data.toList.length (by simp [DataW.weights])
        simpa [reachBytes] using this
      exact Opened.flat hf rfl rfl (by unfold RD; rw [ht]; exact ⟨s, rfl, hsz⟩)
    · rename_i e ht
      simp only [Bool.and_eq_true, decide_eq_true_eq] at hok
      obtain ⟨⟨_, hoke⟩, hpos⟩ := hok
      -- an empty slice that leads nowhere
      have empty : ∀ (X : Option Addr), Opened G w β σ [.slice X 0 0] fun σ' as => RD P σ' (d + 1) t as := fun X => by
        refine ⟨β, σ ++ [some ⟨[], false, P.cellsOf e⟩], [.slice (some ⟨σ.length, 0, none⟩) 0 1], ⟨fun n cb b hn hl => ?_, hf.own, fun n hn => hf.fresh n (by simp at hn; omega), hf.glob⟩, List.prefix_append _ _, fun _ _ h => h, .single (.slc0 _ _ _), by simp [Value.oneCell'], ?_⟩
        · have hlt : n < σ.length := by
            rcases Nat.lt_or_ge n σ.length with h' | h'
            · exact h'
            · rw [hf.fresh n h'] at hn; simp at hn
          rw [look_app_lt hlt] at hl
          exact hf.holds n cb b hn hl
        · unfold RD
          rw [ht]
          exact ⟨σ.length, 0, [], rfl, by simp, by rw [look_app_new, look_zero], by simp, fun i hi => by omega⟩
      rcases DataW.trod_slice ht h with ⟨rfl, rfl⟩ | ⟨a, len, cap, elems, rest, n, rfl, rfl, rfl, hb, hl, hm, hlen, hel, hrest, _⟩
      · exact empty none
      · by_cases hcap : cap = 0
        · subst hcap
          have : len = 0 := by omega
          subst this
          exact empty (some a)
        · obtain ⟨hrl, hre⟩ := hrest (hs _)
          have hwe : ∀ (i : Nat) (y : DataW H × List MemPlace), elems[i]? = some y → ∀ n ∈ y.1.weights P e, n ≤ reachBytes := fun i y hy n hn => by
            refine hw n ?_
            simp only [DataW.weights, ht, List.mem_cons, List.mem_append]
            exact .inr (.inl (weightsAll_mem (elems.map (·.1)) i y.1 (by simp [hy]) n hn))
          obtain ⟨cs, c1, c2, β1, σ1, as, k1, k2, k3, k4, k5, k6⟩ := open_elems (fun fuel cs x β σ h hw hf hG => open_val hs d e fuel cs x β σ hoke h hw hf hG) rfl len elems β σ (by omega) hel hwe hf hG
          have hobj : ∃ c ee frz, w.heap[a.block]? = some (.cells c ee frz) ∧ a.spot = none ∧ a.off < c.size := by
            have hfirst : ∃ v, w.cell? a = some v := by
              by_cases hl0 : 0 < len
              · have h1 := hel 0 hl0
                obtain ⟨y, hy⟩ : ∃ y, elems[0]? = some y := ⟨_, List.getElem?_eq_getElem (by omega)⟩
                rw [hy, Option.bind_eq_some_iff] at h1
                obtain ⟨cs', hcs, _⟩ := h1
                obtain ⟨_, hcl, hcell⟩ := World.cells?_some hcs
                have h2 := hcell 0 hpos
                rw [List.getElem?_eq_getElem (by omega)] at h2
                refine ⟨_, Eq.trans ?_ h2⟩
                simp [Addr.add]
              · have h1 := hre 0 (by omega)
                obtain ⟨y, hy⟩ : ∃ y, rest[0]? = some y := ⟨_, List.getElem?_eq_getElem (by omega)⟩
                rw [hy, Option.bind_eq_some_iff] at h1
                obtain ⟨cs', hcs, _⟩ := h1
                obtain ⟨_, hcl, hcell⟩ := World.cells?_some hcs
                have h2 := hcell 0 hpos
                rw [List.getElem?_eq_getElem (by omega)] at h2
                have hl00 : len = 0 := by omega
                subst hl00
                refine ⟨_, Eq.trans ?_ h2⟩
                simp [Addr.add]
            obtain ⟨v, hv⟩ := hfirst
            unfold World.cell? at hv
            split at hv
            · rename_i c ee frz hc
              split at hv
              · simp at hv
              · rename_i hsp
                refine ⟨c, ee, frz, hc, ?_, (Array.getElem?_eq_some_iff.1 hv).1⟩
                cases hsp2 : a.spot with
                | none => rfl
                | some z => rw [hsp2] at hsp; simp at hsp
            · simp at hv
          obtain ⟨c, ee, frz, hc, hsp, hoff⟩ := hobj
          have hcell : ∀ j v, cs[j]? = some v → c[a.off + j]? = some v := fun j v hv => by
            have h1 := c2 j v hv
            unfold World.cell? at h1
            rw [add_block, hc] at h1
            simp only [add_spot a j hsp, add_off, Option.isSome_none, Bool.false_eq_true, if_false] at h1
            exact h1
          have hroom : a.off + len * P.cellsOf e ≤ c.size := by
            by_cases hz : len * P.cellsOf e = 0
            · omega
            · have h1 := hcell (len * P.cellsOf e - 1) (cs[len * P.cellsOf e - 1]'(by omega)) (List.getElem?_eq_getElem (by omega))
              have := (Array.getElem?_eq_some_iff.1 h1).1
              omega
          have hH : Holds β1 ⟨a.block, a.off, len * P.cellsOf e, false, P.cellsOf e⟩ ⟨as, false, P.cellsOf e⟩ w := by
            refine ⟨⟨c, ee, frz, hc, hroom, fun h => by simp at h, fun i v hv => ?_⟩, ?_, rfl, rfl, k5⟩
            · obtain ⟨v', h1, h2⟩ := k4.get i v hv
              exact ⟨v', hcell i v' h1, h2⟩
            · show as.length ≤ len * P.cellsOf e
              rw [k4.length, c1]
              exact Nat.le_refl _
          obtain ⟨l1, l2⟩ := k1.add (Nat.le_trans hG k2.length_le) hH rfl
          refine ⟨_, σ1 ++ [some ⟨as, false, P.cellsOf e⟩], [.slice (some ⟨σ1.length, 0, none⟩) len (len + 1)], l1, k2.trans (List.prefix_append _ _), fun n c h => l2 n c (k3 n c h), ?_, by simp [Value.oneCell'], ?_⟩
          · have ha : a = ⟨a.block, a.off + 0, none⟩ := by
              cases a
              simp only at hsp
              subst hsp
              rfl
            rw [ha]
            exact .single (.slc σ1.length 0 len (len + 1) cap ⟨a.block, a.off, len * P.cellsOf e, false, P.cellsOf e⟩ (if_pos rfl) hl (fun h => by omega) (fun h => by simp at h))
          · unfold RD
            rw [ht]
            refine ⟨σ1.length, len, as, rfl, ?_, by rw [look_app_new, look_zero], by rw [k4.length, c1], fun i hi => (k6 i hi).mono (List.prefix_append _ _)⟩
            have hwt : (elems.length + rest.length) * P.bytesOf e ≤ reachBytes := hw _ (by simp [DataW.weights, ht])
            have e1 : len ≤ elems.length + rest.length := by omega
            exact Nat.le_trans (Nat.mul_le_mul_right _ e1) hwt
    · rename_i fs ht
      obtain ⟨xs, n, rfl, rfl, hcs, hl, hx⟩ := DataW.trod_struct ht h
      rw [← hcs] at hok
      obtain ⟨β1, σ1, as, k1, k2, k3, k4, k5, k6⟩ := open_fields (fun t fuel cs x β σ hok h hw hf hG => open_val hs d t fuel cs x β σ hok h hw hf hG) fs.toList 0 xs β σ hok (Nat.zero_le _) (by simpa using hl) (fun i f hf => hx i f (by simpa using hf))
        (fun n hn => hw n (by simpa [DataW.weights, ht] using hn)) hf hG
      refine ⟨β1, σ1, as, k1, k2, k3, by simpa using k4, k5, ?_⟩
      unfold RD
      rw [ht]
      exact k6
    · simp at hok
end
end
end Go.Proofs.YtkgdkommahgakaaDoor.Abs
