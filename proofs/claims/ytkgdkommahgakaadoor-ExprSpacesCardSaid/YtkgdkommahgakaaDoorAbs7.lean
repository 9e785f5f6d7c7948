/- The abstract machine: what an operation does there, it does in every world that is as the abstract heap says. Part four: new blocks, stores, appends. -/
import Derived.Test.YtkgdkommahgakaaDoorAbs6
namespace Go.Proofs.YtkgdkommahgakaaDoor.Abs
open Go Go.RowKit
set_option linter.unusedVariables false
set_option linter.unusedSimpArgs false

section
variable {P : Program} {base G : Nat} {β : Map} {σ : Heap} {w : World}

theorem rel_prefix {cells : List Value} {c : Array Value} (h : RelL β cells c.toList) : ∀ (i : Nat) (v : Value), cells[i]? = some v → ∃ v', c[i]? = some v' ∧ Rel β v v' := fun i v hv => by
  obtain ⟨v', h1, h2⟩ := h.get i v hv
  exact ⟨v', by rw [← Array.getElem?_toList]; exact h1, h2⟩

theorem flat_get (l : List Value) (h0 : 0 < l.length) : ∀ (n i : Nat), i < n * l.length → ((List.replicate n l).flatten)[i]? = l[i % l.length]?
  | 0, i, h => by simp at h
  | n + 1, i, h => by
    rw [List.replicate_succ, List.flatten_cons]
    by_cases hi : i < l.length
    · rw [List.getElem?_append_left hi, Nat.mod_eq_of_lt hi]
    · rw [List.getElem?_append_right (by omega), flat_get l h0 n (i - l.length) (by rw [Nat.add_mul, Nat.one_mul] at h; omega)]
      congr 1
      exact (Nat.mod_eq_sub_mod (by omega)).symm
theorem flat_length (l : List Value) (n : Nat) : ((List.replicate n l).flatten).length = n * l.length := by
  induction n with
  | zero => simp
  | succ n ih => rw [List.replicate_succ, List.flatten_cons, List.length_append, ih, Nat.succ_mul]; omega
/-- The cells of a row of zeros, as the model makes them. -/
theorem zeros_rel {z : Array Value} (hz : z.all scal = true) (h0 : 0 < z.size) {n m : Nat} (hnm : n ≤ m) :
    ∀ (i : Nat) (v : Value), ((List.replicate n z.toList).flatten)[i]? = some v → ∃ v', ((Array.range (m * z.size)).map (z[· % z.size]!))[i]? = some v' ∧ Rel β v v' := fun i v hv => by
  have hi := (List.getElem?_eq_some_iff.1 hv).1
  rw [flat_length] at hi
  rw [flat_get _ (by simpa using h0) n i hi] at hv
  simp only [Array.length_toList] at hi hv
  have hm : i < m * z.size := Nat.lt_of_lt_of_le hi (Nat.mul_le_mul_right _ hnm)
  refine ⟨v, ?_, .scal v ?_⟩
  · have hlt : i % z.size < z.size := Nat.mod_lt _ h0
    rw [Array.getElem?_map]
    rw [Array.getElem?_eq_getElem (by simpa using hm)]
    simp only [Array.getElem_range, Option.map_some]
    rw [Array.getElem?_toList, Array.getElem?_eq_getElem hlt] at hv
    rw [getElem!_pos z _ hlt]
    exact hv
  · exact scal_all hz v (List.mem_of_getElem? hv)

theorem scal_one {v : Value} (h : scal v = true) : v.oneCell' = true := by
  cases v <;> first | rfl | (simp [scal] at h)
theorem setAll_one : ∀ (vs cs : List Value) (o : Nat), (∀ v ∈ vs, v.oneCell' = true) → (∀ v ∈ cs, v.oneCell' = true) → ∀ v ∈ setAll cs o vs, v.oneCell' = true
  | [], cs, o, _, h => h
  | v :: vs, cs, o, h1, h => by
    rw [setAll]
    refine setAll_one vs _ _ (fun u hu => h1 u (by simp [hu])) fun u hu => ?_
    rcases List.mem_or_eq_of_mem_set hu with hu | rfl
    · exact h u hu
    · exact h1 _ (by simp)
theorem afill_one (pl : Nat → Option (Nat × Nat)) : ∀ (ps : List (Nat × Value)) (a b : List Value), afill pl a ps = some b → (∀ v ∈ a, v.oneCell' = true) → ∀ v ∈ b, v.oneCell' = true
  | [], a, b, h, ha => by rw [afill] at h; rw [← Option.some.inj h]; exact ha
  | (i, u) :: ps, a, b, h, ha => by
    rw [afill] at h
    obtain ⟨pp, _, h⟩ := Option.bind_eq_some_iff.1 h
    split at h
    · rename_i hc
      exact afill_one pl ps _ _ h (setAll_one _ _ _ (fun x hx => Array.all_eq_true_iff_forall_mem.1 hc.2.2 x (by simpa using hx)) ha)
    · simp at h
theorem flat_one {l : List Value} (h : ∀ v ∈ l, scal v = true) (n : Nat) : ∀ v ∈ (List.replicate n l).flatten, v.oneCell' = true := fun v hv => by
  obtain ⟨x, hx, hv⟩ := List.mem_flatten.1 hv
  rw [(List.mem_replicate.1 hx).2] at hv
  exact scal_one (h v hv)

/-- What an operation may leave: a value or nothing, and a world that is as the new heap says. -/
def Done (base G : Nat) (β : Map) (σ : Heap) (w : World) (σ' : Heap) (v : Value) (r : Result Next) : Prop :=
  ∃ v' w' β', (r = .ok (.value v') w' ∨ (r = .ok .skip w' ∧ v' = undef)) ∧ Rel β' v v' ∧ Sim base G β' σ' w' ∧ Step β σ w β' σ' w'

theorem done_pure (hs : Sim base G β σ w) {v : Value} {r : Result Next} (h : ∃ v', r = .ok (.value v') w ∧ Rel β v v') : Done base G β σ w σ v r := by
  obtain ⟨v', h1, h2⟩ := h
  exact ⟨v', w, β, .inl h1, h2, hs, Step.refl _ _ _⟩

theorem done_new (hs : Sim base G β σ w) {cells : List Value} {sz : Nat} {c : Array Value} {e : TypeId} (hf : ∀ n, σ.length ≤ n → n < (σ ++ [some (⟨cells, true, sz⟩ : Blk)]).length → β n = none)
    {r : Result Next} {v : Value} {v' : Value} (hr : r = .ok (.value v') { w with heap := w.heap.push (.cells c e) })
    (hl : cells.length ≤ c.size) (hone : ∀ v ∈ cells, v.oneCell' = true) (hc : ∀ (i : Nat) (v : Value), cells[i]? = some v → ∃ v', c[i]? = some v' ∧ Rel β v v')
    (hv : ∀ β' : Map, β' σ.length = some ⟨w.heap.size, 0, c.size, true, sz⟩ → Rel β' v v') : Done base G β σ w (σ ++ [some ⟨cells, true, sz⟩]) v r := by
  obtain ⟨h1, h2⟩ := sim_new (sz := sz) (cells := cells) (c := c) (e := e) (w' := { w with heap := w.heap.push (.cells c e) }) hs (hf _ (Nat.le_refl _) (by simp)) rfl rfl rfl rfl hl hone hc
  exact ⟨v', _, _, .inl hr, hv _ (Map.upd_same _ _ _), h1, h2⟩

theorem box_done (hs : Sim base G β σ w) {t : TypeId} {x x' : Value} (hx : Rel β x x') (hone : x.cells.all (·.oneCell') = true) (hf : ∀ n, σ.length ≤ n → n < (σ ++ [some (⟨x.cells.toList, true, 0⟩ : Blk)]).length → β n = none) :
    Done base G β σ w (σ ++ [some ⟨x.cells.toList, true, 0⟩]) (newPtr σ) (((Instr.box t x').run P w).andThen fun v w' => .ok (.value v) w') := by
  have hc := hx.cells (oneCells_junk hone)
  refine done_new (c := x'.cells) (e := t) hs hf (v' := .pointer (some ⟨w.heap.size, 0, none⟩)) ?_ (by have := hc.length; simp at this; simp; omega) (fun u hu => Array.all_eq_true_iff_forall_mem.1 hone u (by simpa using hu)) (rel_prefix hc) (fun β' h => .ptr _ _ _ h)
  unfold Instr.box newVar newRow
  simp only [Sem.run_bind, run_newObj, Result.andThen_ok, Sem.run_pure]

theorem alloc_done (hs : Sim base G β σ w) {t : TypeId} {z : Value} (hz : tzero P t = some z) (hsc : z.cells.all scal = true) (hf : ∀ n, σ.length ≤ n → n < (σ ++ [some (⟨z.cells.toList, true, 0⟩ : Blk)]).length → β n = none) :
    Done base G β σ w (σ ++ [some ⟨z.cells.toList, true, 0⟩]) (newPtr σ) (((Instr.alloc t true (.tuple #[])).run P w).andThen fun v w' => .ok (.value v) w') := by
  refine done_new (c := z.cells) (e := t) hs hf (v' := .pointer (some ⟨w.heap.size, 0, none⟩)) ?_ (by simp) (fun u hu => scal_one (scal_all hsc u hu)) (rel_prefix (RelL.scal (scal_all hsc))) (fun β' h => .ptr _ _ _ h)
  unfold Instr.alloc newVar newRow
  simp only [Sem.run_bind, run_zero hz, run_newObj, Result.andThen_ok, Sem.run_pure]

theorem buildSlice_done (hs : Sim base G β σ w) {t : TypeId} {len : Nat} {parts : List (Nat × Value)} {parts' : Array (Nat × Value)} {v : Value} {σ' : Heap} (hp : RelP β parts parts'.toList)
    (h : abuildSlice P σ t len parts = some (v, σ')) (hf : ∀ n, σ.length ≤ n → n < σ'.length → β n = none) :
    Done base G β σ w σ' v (((Instr.buildSlice t len parts').run P w).andThen fun v w' => .ok (.value v) w') := by
  unfold abuildSlice at h
  split at h
  · rename_i e hu
    split at h
    · rename_i hc
      obtain ⟨h1, h2⟩ := hc
      obtain ⟨ie, hie⟩ := info_some h1
      obtain ⟨z, hz, h⟩ := Option.bind_eq_some_iff.1 h
      split at h
      · rename_i hc
        obtain ⟨h3, h4, h5⟩ := hc
        obtain ⟨cs, hcs, h⟩ := Option.map_eq_some_iff.1 h
        simp only [Prod.mk.injEq] at h
        obtain ⟨rfl, rfl⟩ := h
        have h0 : 0 < z.cells.size := by omega
        have hzl : RelL β (List.replicate len z.cells.toList).flatten ((Array.range (len * P.cellsOf e)).map (z.cells[· % z.cells.size]!)).toList := by
          refine RelL.of_get (by rw [flat_length]; simp [h3]) fun i v v' hv hv' => ?_
          obtain ⟨v2, hv2, hr⟩ := zeros_rel (β := β) h5 h0 (Nat.le_refl len) i v hv
          rw [h3] at hv2
          rw [Array.getElem?_toList, h3, hv2] at hv'
          exact Option.some.inj hv' ▸ hr
        obtain ⟨r', hr', hrel⟩ := fill_ok (β := β) _ hp hzl hcs
        have hsz : r'.size = len * P.cellsOf e := by
          have e1 := hrel.length
          have e2 : cs.length = len * P.cellsOf e := by
            have : ∀ (ps : List (Nat × Value)) (a b : List Value) (pl), afill pl a ps = some b → b.length = a.length := by
              intro ps
              induction ps with
              | nil => intro a b pl h; rw [afill] at h; rw [Option.some.inj h]
              | cons q ps ih =>
                intro a b pl h
                obtain ⟨i, u⟩ := q
                rw [afill] at h
                obtain ⟨pp, _, h⟩ := Option.bind_eq_some_iff.1 h
                split at h
                · rw [ih _ _ _ h, setAll_length]
                · simp at h
            rw [this _ _ _ _ hcs, flat_length]
            simp [h3]
          simp at e1
          omega
        refine done_new (c := r') (e := e) hs hf (v' := .slice (some ⟨w.heap.size, 0, none⟩) len len) ?_ (by have := hrel.length; simp at this; omega) (afill_one _ _ _ _ hcs (flat_one (scal_all h5) len)) (rel_prefix hrel) (fun β' hb => ?_)
        · unfold Instr.buildSlice
          simp only [Sem.run_bind, run_underlying hu, Result.andThen_ok, run_sizeOf w hie]
          rw [if_neg (by omega)]
          by_cases hl0 : len * P.cellsOf e = 0
          · rw [if_pos hl0]
            have hmap : ((Array.range (len * P.cellsOf e)).map fun x => (#[] : Array Value)[x % (#[] : Array Value).size]!) = (Array.range (len * P.cellsOf e)).map (z.cells[· % z.cells.size]!) := by
              rw [hl0]; simp
            simp only [Sem.run_bind, Sem.run_pure, Result.andThen_ok, hmap, hr', newRow, run_newObj]
          · rw [if_neg hl0]
            simp only [Sem.run_bind, run_zero hz, Sem.run_pure, Result.andThen_ok, hr', newRow, run_newObj]
        · exact .slc σ.length 0 len len len ⟨w.heap.size, 0, r'.size, true, P.cellsOf e⟩ hb (Nat.le_refl _) (fun h => h) (fun _ => by show 0 + len * P.cellsOf e ≤ r'.size; omega)
      · simp at h
    · simp at h
  · simp at h

theorem makeSlice_done (hs : Sim base G β σ w) {t : TypeId} {n m n' m' : Value} {v : Value} {σ' : Heap} (hn : Rel β n n') (hm : Rel β m m')
    (h : amakeSlice P σ t n m = some (v, σ')) (hf : ∀ n, σ.length ≤ n → n < σ'.length → β n = none) :
    Done base G β σ w σ' v (((Instr.makeSlice t n' m').run P w).andThen fun v w' => .ok (.value v) w') := by
  unfold amakeSlice at h
  split at h
  · rename_i e k1 n k2 m hu
    obtain rfl := hn.int_inv
    obtain rfl := hm.int_inv
    split at h
    · rename_i hc
      obtain ⟨h1, h2, h3, h3b, h4⟩ := hc
      obtain ⟨ie, hie⟩ := info_some h1
      obtain ⟨z, hz, h⟩ := Option.bind_eq_some_iff.1 h
      split at h
      · rename_i hc
        obtain ⟨h5, h6, h7⟩ := hc
        simp only [Option.some.injEq, Prod.mk.injEq] at h
        obtain ⟨rfl, rfl⟩ := h
        have h0 : 0 < z.cells.size := by omega
        have hB : P.bytesOf e = ie.bytes := by simp [Program.bytesOf, hie]
        rw [hB] at h4
        have hw : ∀ x : Int, 0 ≤ x → x ≤ 140737488355328 → IntKind.i64.wrap x = x := fun x hx hx2 => by
          simp only [IntKind.wrap, IntKind.bits, IntKind.signed]
          simp
          omega
        have hnm : n.toNat ≤ m.toNat := by omega
        have hmc : n.toNat * P.cellsOf e ≤ m.toNat * P.cellsOf e := Nat.mul_le_mul_right _ hnm
        refine done_new (c := (Array.range (m.toNat * z.cells.size)).map (z.cells[· % z.cells.size]!)) (e := e) hs hf (v' := .slice (some ⟨w.heap.size, 0, none⟩) n.toNat m.toNat) ?_ (by rw [flat_length]; simp; rw [h5]; exact hmc) (flat_one (scal_all h7) _) (zeros_rel h7 h0 hnm) (fun β' hb => ?_)
        · unfold Instr.makeSlice
          simp only [Sem.run_bind, run_underlying hu, Result.andThen_ok, asInt, asIntOf, Sem.run_pure, run_typeInfo w hie, hw n h2 (by omega), hw m (by omega) h3b]
          have hnb : (ie.bytes : Int) * n ≤ ie.bytes * m := Int.mul_le_mul_of_nonneg_left h3 (by omega)
          have hmb : (ie.bytes : Int) * m ≤ 140737488355328 := by rw [Int.mul_comm]; exact h4
          have e1 : (decide (m < 0) || decide ((ie.bytes : Int) * m > 2 ^ 48) || decide (n < 0) || decide (n > m)) = false := by
            simp only [Bool.or_eq_false_iff, decide_eq_false_iff_not]
            have h48 : (2 : Int) ^ 48 = 281474976710656 := by decide
            refine ⟨⟨⟨by omega, by omega⟩, by omega⟩, by omega⟩
          rw [if_neg (by rw [e1]; decide)]
          simp only [Sem.run_bind, run_askRoom, Result.andThen_ok, run_sizeOf w hie]
          by_cases hz0 : m.toNat * P.cellsOf e = 0
          · rw [if_pos hz0]
            have hmap : ((Array.range (m.toNat * P.cellsOf e)).map fun x => (#[] : Array Value)[x % (#[] : Array Value).size]!) = (Array.range (m.toNat * z.cells.size)).map (z.cells[· % z.cells.size]!) := by
              rw [h5, hz0]; simp
            simp only [Sem.run_bind, Sem.run_pure, Result.andThen_ok, hmap, newRow, run_newObj]
          · rw [if_neg hz0]
            simp only [Sem.run_bind, run_zero hz, Sem.run_pure, Result.andThen_ok, newRow, run_newObj, h5]
        · refine .slc σ.length 0 n.toNat _ m.toNat _ hb hnm (fun h => ?_) (fun _ => ?_)
          · split at h <;> omega
          · show 0 + m.toNat * P.cellsOf e ≤ _
            simp [h5]
      · simp at h
    · simp at h
  · simp at h

/-- A run of stores into a block that is not frozen. -/
theorem run_stores (g : Nat) (e : TypeId) (frz : Nat × Nat) (hfr : frz.2 ≤ frz.1) : ∀ (vs : List Value) (o i : Nat) (c : Array Value) (w : World), w.heap[g]? = some (.cells c e frz) → o + i + vs.length ≤ c.size → (∀ v ∈ vs, v.oneCell' = true) →
    ∃ w', (storeCells ⟨g, o, none⟩ vs i).run P w = .ok () w' ∧ w'.heap[g]? = some (.cells (setAll c.toList (o + i) vs).toArray e frz) ∧ (∀ k, k ≠ g → w'.heap[k]? = w.heap[k]?) ∧ w'.heap.size = w.heap.size ∧
      w'.os = w.os ∧ w'.tape = w.tape ∧ w'.output = w.output
  | [], o, i, c, w, hg, _, _ => ⟨w, rfl, by rw [setAll]; simpa using hg, fun _ _ => rfl, rfl, rfl, rfl, rfl⟩
  | v :: vs, o, i, c, w, hg, hl, h1 => by
    simp only [List.length_cons] at hl
    have hcell : w.cell? ⟨g, o + i, none⟩ = some c[o + i] := by
      simp only [World.cell?, hg]
      simp [Array.getElem?_eq_getElem (show o + i < c.size by omega)]
    have hfz : w.frozen? ⟨g, o + i, none⟩ = false := by
      simp only [World.frozen?, hg]
      simp only [Bool.and_eq_false_iff, decide_eq_false_iff_not]
      omega
    have hlt : g < w.heap.size := (Array.getElem?_eq_some_iff.1 hg).1
    have hg1 : (w.setCell ⟨g, o + i, none⟩ v).heap[g]? = some (.cells (c.setIfInBounds (o + i) v) e frz) := by
      simp [World.setCell, Array.getElem?_modify, hg]
    obtain ⟨w', hr, h2, h3, h4, h5, h6, h7⟩ := run_stores g e frz hfr vs o (i + 1) (c.setIfInBounds (o + i) v) (w.setCell ⟨g, o + i, none⟩ v) hg1 (by simp; omega) (fun u hu => h1 u (by simp [hu]))
    refine ⟨w', ?_, ?_, fun k hk => ?_, ?_, h5, h6, h7⟩
    · unfold storeCells
      simp only [Sem.run_bind, addr_add]
      rw [run_store P w _ v _ (h1 v (by simp)), hcell]
      simp only [hfz, Bool.false_eq_true, if_false, Result.andThen_ok]
      exact hr
    · rw [h2, setAll]
      simp [Nat.add_assoc]
    · rw [h3 k hk]
      simp only [World.setCell, Array.getElem?_modify]
      rw [if_neg (fun h => hk h.symm)]
    · rw [h4]
      simp [World.setCell]

theorem rel_oneCell {v v' : Value} (h : Rel β v v') (h1 : v.oneCell' = true) : v'.oneCell' = true := by
  cases h with
  | any => simp [junk, Value.oneCell'] at h1
  | scal => exact h1
  | agg => simp [Value.oneCell'] at h1
  | tuple => simp [Value.oneCell'] at h1
  | _ => rfl
theorem relL_oneCell : ∀ {a b : List Value}, RelL β a b → (∀ v ∈ a, v.oneCell' = true) → ∀ v ∈ b, v.oneCell' = true
  | _, _, .nil, _ => fun v hv => by simp at hv
  | _, _, .cons a b as bs h hs, h1 => fun v hv => by
    rcases List.mem_cons.1 hv with rfl | hv
    · exact rel_oneCell h (h1 a (by simp))
    · exact relL_oneCell hs (fun u hu => h1 u (by simp [hu])) v hv

theorem store_done (hs : Sim base G β σ w) {t : TypeId} {a a' v v' : Value} {σ' : Heap} (ha : Rel β a a') (hv : Rel β v v') (h : astore P σ t a v = some σ') :
    Done base G β σ w σ' undef (((Instr.storeAt t a' v').run P w).andThen fun _ w' => .ok .skip w') := by
  unfold astore at h
  split at h
  · rename_i n o
    obtain ⟨cb, hcb, _, rfl⟩ := ha.ptr_inv
    obtain ⟨b, hb, h⟩ := Option.bind_eq_some_iff.1 h
    split at h
    · rename_i hc
      obtain ⟨h1, h2, h3, h4, h5⟩ := hc
      obtain rfl := Option.some.inj h
      obtain ⟨i, hi⟩ := info_some h2
      have hh := hs.holds n cb b hcb hb
      obtain ⟨c, e, frz, hobj, k1, k2, k3⟩ := hh.obj
      have hcells := hv.cells (oneCells_junk h5)
      have hsz : v'.cells.size = v.cells.size := by have := hcells.length; simpa using this.symm
      have hone : ∀ u ∈ v'.cells.toList, u.oneCell' = true := relL_oneCell hcells (fun u hu => Array.all_eq_true_iff_forall_mem.1 h5 u (by simpa using hu))
      have hlen := hh.len
      obtain ⟨w', hr, h6, h7, h8, h9, h10, h11⟩ := run_stores (P := P) cb.blk e frz (k2 (hh.own.trans h1)) v'.cells.toList (cb.off + o) 0 c w hobj (by simp; omega) hone
      have key : ∀ (i : Nat) (u : Value), (setAll b.cells o v.cells.toList)[i]? = some u → ∃ u', (setAll c.toList (cb.off + o + 0) v'.cells.toList).toArray[cb.off + i]? = some u' ∧ Rel β u u' := by
        intro i u hu
        rw [setAll_get _ _ _ _ (by simp; omega)] at hu
        rw [List.getElem?_toArray, setAll_get _ _ _ _ (by simp; omega)]
        simp only [Array.length_toList] at hu ⊢
        by_cases hin : o ≤ i ∧ i < o + v.cells.size
        · rw [if_pos hin] at hu
          rw [if_pos (by omega)]
          obtain ⟨u', hu', hru⟩ := hcells.get _ _ hu
          exact ⟨u', by rw [show cb.off + i - (cb.off + o + 0) = i - o by omega]; exact hu', hru⟩
        · rw [if_neg hin] at hu
          rw [if_neg (by omega)]
          obtain ⟨u', hu', hru⟩ := k3 i u hu
          exact ⟨u', by rw [Array.getElem?_toList]; exact hu', hru⟩
      obtain ⟨s1, s2⟩ := sim_store (w' := w') hs hb hcb h1 (cells := setAll b.cells o v.cells.toList) (setAll_length _ _ _) (setAll_one _ _ _ (fun u hu => Array.all_eq_true_iff_forall_mem.1 h5 u (by simpa using hu)) hh.one) hobj h6 (by simp [setAll_length]) h7 h8 h9 h10 h11 key
      refine ⟨undef, w', β, .inr ⟨?_, rfl⟩, rel_undef _, s1, s2⟩
      unfold Instr.storeAt storeVar
      simp only [Sem.run_bind, Instr.sureAddr, Sem.run_pure, Result.andThen_ok, run_sizeOf w hi]
      rw [if_neg (by simp [hsz, h3])]
      have hr' := hr
      simp only [Sem.run_bind, Sem.run_pure, Result.andThen_ok, hr']
    · simp at h
  · simp at h
end
end Go.Proofs.YtkgdkommahgakaaDoor.Abs
