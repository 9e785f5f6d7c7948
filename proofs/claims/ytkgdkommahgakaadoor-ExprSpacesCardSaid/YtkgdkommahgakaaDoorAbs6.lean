/- The abstract machine: what an operation does there, it does in every world that is as the abstract heap says. Part three: operations that make or write memory. -/
import Derived.Test.YtkgdkommahgakaaDoorAbs5
namespace Go.Proofs.YtkgdkommahgakaaDoor.Abs
open Go Go.RowKit
set_option linter.unusedVariables false
set_option linter.unusedSimpArgs false

section
variable {P : Program} {base G : Nat} {β : Map} {σ : Heap} {w : World}

theorem setAll_length : ∀ (vs cs : List Value) (o : Nat), (setAll cs o vs).length = cs.length
  | [], cs, o => rfl
  | v :: vs, cs, o => by rw [setAll, setAll_length vs]; simp
theorem setAll_rel : ∀ {vs vs' : List Value} {cs cs' : List Value} (o : Nat), RelL β vs vs' → RelL β cs cs' → RelL β (setAll cs o vs) (setAll cs' o vs')
  | _, _, _, _, o, .nil, h => h
  | _, _, _, _, o, .cons a b as bs h hs, h2 => by
    rw [setAll, setAll]
    exact setAll_rel (o + 1) hs (h2.set o h)
theorem setAll_get : ∀ (vs cs : List Value) (o i : Nat), o + vs.length ≤ cs.length → (setAll cs o vs)[i]? = if o ≤ i ∧ i < o + vs.length then vs[i - o]? else cs[i]?
  | [], cs, o, i, _ => by
    rw [setAll, if_neg (by simp)]
  | v :: vs, cs, o, i, h => by
    simp only [List.length_cons] at h
    rw [setAll, setAll_get vs (cs.set o v) (o + 1) i (by simp; omega)]
    simp only [List.length_cons]
    by_cases h1 : i = o
    · subst h1
      rw [if_neg (by omega), if_pos (by omega), List.getElem?_set_self (by omega)]
      simp
    · by_cases h2 : o + 1 ≤ i ∧ i < o + 1 + vs.length
      · rw [if_pos h2, if_pos (by omega)]
        rw [show i - o = (i - (o + 1)) + 1 by omega, List.getElem?_cons_succ]
      · rw [if_neg h2, if_neg (by omega), List.getElem?_set_ne (by omega)]

theorem foldl_setAll (off : Nat) : ∀ (l : List Value) (k : Nat) (cells : Array Value), ((l.zipIdx k).foldl (fun (cs : Array Value) (p : Value × Nat) => cs.setIfInBounds (off + p.2) p.1) cells).toList = setAll cells.toList (off + k) l
  | [], k, cells => rfl
  | v :: l, k, cells => by
    rw [List.zipIdx_cons, List.foldl_cons, foldl_setAll off l (k + 1), setAll]
    simp [Nat.add_assoc]

/-- Parts with their places. -/
inductive RelP (β : Map) : List (Nat × Value) → List (Nat × Value) → Prop
  | nil : RelP β [] []
  | cons (i : Nat) (a b : Value) (as bs : List (Nat × Value)) (h : Rel β a b) (hs : RelP β as bs) : RelP β ((i, a) :: as) ((i, b) :: bs)

theorem oneCells_junk {v : Value} (h : v.cells.all (·.oneCell') = true) : v ≠ junk := fun h0 => by
  subst h0
  simp [junk, Value.cells, Value.oneCell'] at h

theorem fill_ok (place : Nat → Option (Nat × Nat)) : ∀ {parts parts' : List (Nat × Value)} {cs r : List Value} {cs' : Array Value}, RelP β parts parts' → RelL β cs cs'.toList → afill place cs parts = some r →
    ∃ r', Instr.fill place cs' parts' = some r' ∧ RelL β r r'.toList
  | _, _, cs, r, cs', .nil, hc, h => by
    rw [afill] at h
    obtain rfl := Option.some.inj h
    exact ⟨cs', rfl, hc⟩
  | _, _, cs, r, cs', .cons i a b as bs hab hs, hc, h => by
    rw [afill] at h
    obtain ⟨⟨off, size⟩, hp, h⟩ := Option.bind_eq_some_iff.1 h
    split at h
    · rename_i hcond
      obtain ⟨h1, h2, h3⟩ := hcond
      have hcells := hab.cells (oneCells_junk h3)
      have hsz : b.cells.size = a.cells.size := by
        have := hcells.length
        simpa using this.symm
      rw [Instr.fill, hp]
      simp only
      rw [if_neg]
      · refine fill_ok place hs ?_ h
        have e := foldl_setAll off b.cells.toList 0 cs'
        have e2 : (b.cells.zipIdx.foldl (fun (cs : Array Value) (x : Value × Nat) => cs.setIfInBounds (off + x.2) x.1) cs').toList = setAll cs'.toList off b.cells.toList := by
          rw [← Array.foldl_toList, Array.toList_zipIdx]
          simpa using e
        show RelL β (setAll cs off a.cells.toList) (b.cells.zipIdx.foldl (fun (cs : Array Value) (x : Value × Nat) => cs.setIfInBounds (off + x.2) x.1) cs').toList
        rw [e2]
        exact setAll_rel off hcells hc
      · have hl := hc.length
        simp only [Array.length_toList] at hl
        simp only [Bool.or_eq_true, decide_eq_true_eq, not_or]
        simp only at h1 h2
        constructor
        · simp [hsz, h1]
        · omega
    · simp at h

theorem run_zero {t : TypeId} {z : Value} (h : tzero P t = some z) (w : World) : (zeroValue t).run P w = .ok z w := by
  unfold tzero at h
  obtain ⟨i, hi, hz⟩ := Option.bind_eq_some_iff.1 h
  unfold zeroValue
  simp only [Sem.run_bind, run_typeInfo w hi, Result.andThen_ok, hz, Sem.run_pure]
theorem info_zero {t : TypeId} {z : Value} (h : tzero P t = some z) : ∃ i, P.info? t = some i := by
  unfold tzero at h
  obtain ⟨i, hi, _⟩ := Option.bind_eq_some_iff.1 h
  exact ⟨i, hi⟩

theorem run_places (w : World) : ∀ (l : List Field), (∀ f ∈ l, (P.info? f.type).isSome = true) → (l.mapM fun (f : Field) => (do pure (f.offset, ← sizeOf f.type) : Sem (Nat × Nat))).run P w = .ok (l.map fun (f : Field) => (f.offset, P.cellsOf f.type)) w
  | [], _ => rfl
  | f :: l, h => by
    obtain ⟨i, hi⟩ := info_some (h f (by simp))
    rw [List.mapM_cons]
    simp only [Sem.run_bind, run_sizeOf w hi, Result.andThen_ok, Sem.run_pure, run_places w l (fun g hg => h g (by simp [hg])), List.map_cons]

theorem scal_all {c : Array Value} (h : c.all scal = true) : ∀ u ∈ c.toList, scal u = true := fun u hu =>
  Array.all_eq_true_iff_forall_mem.1 h u (by simpa using hu)

theorem build_ok {t : TypeId} {parts : List (Nat × Value)} {parts' : Array (Nat × Value)} {v : Value} (hp : RelP β parts parts'.toList) (h : abuild P t parts = some v) :
    ∃ v', (Instr.build t parts').run P w = .ok v' w ∧ Rel β v v' := by
  unfold abuild at h
  split at h
  · rename_i fs hu
    split at h
    · rename_i hall
      obtain ⟨z, hz0, h⟩ := Option.bind_eq_some_iff.1 h
      split at h
      case isFalse => simp at h
      rename_i hzs
      obtain ⟨cs, hcs, rfl⟩ := Option.map_eq_some_iff.1 h
      obtain ⟨r', hr', hrel⟩ := fill_ok (β := β) _ hp (RelL.scal (scal_all hzs)) hcs
      refine ⟨.agg r', ?_, .agg _ _ (by simpa using hrel)⟩
      unfold Instr.build
      simp only [Sem.run_bind, run_zero hz0, Result.andThen_ok, run_underlying hu, Sem.run_pure]
      have hpl : (fs.mapM fun (f : Field) => (do pure (f.offset, ← sizeOf f.type) : Sem (Nat × Nat))).run P w = .ok (fs.map fun (f : Field) => (f.offset, P.cellsOf f.type)) w := by
        rw [Array.mapM_eq_mapM_toList]
        simp only [Sem.run_map, run_places w fs.toList (fun f hf => by
          have := Array.all_eq_true_iff_forall_mem.1 hall f (by simpa using hf)
          exact this), Result.andThen_ok]
        congr 1
        apply Array.ext'
        simp
      rw [hpl]
      simp only [Result.andThen_ok]
      have hplace : (fun (i : Nat) => (fs.map fun (f : Field) => (f.offset, P.cellsOf f.type))[i]?) = (fun (i : Nat) => (fs[i]?).map fun (f : Field) => (f.offset, P.cellsOf f.type)) := by
        funext i
        simp
      rw [hplace, hr']
      rfl
    · simp at h
  · simp at h

theorem len_ok {argTypes : Array TypeId} {ty : TypeId} {args : List Value} {args' : Array Value} {v : Value} (ha : RelL β args args'.toList) (h : alen P argTypes args = some v) :
    ∃ v', (Builtin.len_ argTypes ty args').run P w = .ok v' w ∧ Rel β v v' := by
  unfold alen at h
  split at h
  · rename_i s h1 h2
    obtain ⟨t, ht, hu⟩ := Option.bind_eq_some_iff.1 h1
    obtain ⟨v', hv', hr⟩ := ha.get 0 _ h2
    obtain rfl := hr.string_inv
    obtain rfl := Option.some.inj h
    rw [Array.getElem?_toList] at hv'
    refine ⟨_, ?_, .scal _ rfl⟩
    unfold Builtin.len_
    simp only [ht, hv', Sem.run_bind, run_underlying hu, Result.andThen_ok, Sem.run_pure, goInt]
  · rename_i e a n c h1 h2
    obtain ⟨t, ht, hu⟩ := Option.bind_eq_some_iff.1 h1
    obtain ⟨v', hv', hr⟩ := ha.get 0 _ h2
    obtain rfl := Option.some.inj h
    rw [Array.getElem?_toList] at hv'
    refine ⟨.int .i64 n, ?_, .scal _ rfl⟩
    unfold Builtin.len_
    rcases hr.slc_inv with ⟨_, rfl, _, rfl⟩ | ⟨_, _, rfl, _, rfl⟩ | ⟨_, _, c', _, _, _, _, _, _, rfl⟩
    all_goals simp only [ht, hv', Sem.run_bind, run_underlying hu, Result.andThen_ok, Sem.run_pure, goInt]
  · simp at h
end
end Go.Proofs.YtkgdkommahgakaaDoor.Abs
