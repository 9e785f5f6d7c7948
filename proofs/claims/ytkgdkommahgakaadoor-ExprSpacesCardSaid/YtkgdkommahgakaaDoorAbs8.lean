/- The abstract machine: what an operation does there, it does in every world that is as the abstract heap says. Part five: append; all operations. -/
import Derived.Test.YtkgdkommahgakaaDoorAbs7
namespace Go.Proofs.YtkgdkommahgakaaDoor.Abs
open Go Go.RowKit
set_option linter.unusedVariables false
set_option linter.unusedSimpArgs false

section
variable {P : Program} {base G : Nat} {β : Map} {σ : Heap} {w : World}

theorem Holds.of_heap {cb : CB} {b : Blk} {w1 : World} (he : w1.heap = w.heap) (h : Holds β cb b w) : Holds β cb b w1 := by
  obtain ⟨c, e, frz, h1, h2⟩ := h.obj
  exact ⟨⟨c, e, frz, by rw [he]; exact h1, h2⟩, h.len, h.own, h.sz, h.one⟩
theorem Sim.of_heap {w1 : World} (he : w1.heap = w.heap) (h : Sim base G β σ w) : Sim base G β σ w1 :=
  ⟨by rw [he]; exact h.size, fun n cb b h1 h2 => (h.holds n cb b h1 h2).of_heap he, h.ge, h.disj, h.glob⟩

theorem src_ok (hs : Sim base G β σ w) {sz m : Nat} {cells : List Value} {x x' : Value} (hx : Rel β x x') (h : asrc σ sz x = some (m, cells)) :
    (∀ w1 : World, (Builtin.lenOf x').run P w1 = .ok m w1) ∧ cells.length = m * sz ∧ (∀ v ∈ cells, v.oneCell' = true) ∧ ∃ arr, (∀ w1 : World, w1.heap = w.heap → (Builtin.firstCells sz m x').run P w1 = .ok arr w1) ∧ RelL β cells arr.toList := by
  unfold asrc at h
  split at h
  · obtain ⟨rfl, rfl⟩ := Prod.mk.inj (Option.some.inj h)
    rcases hx.slc_inv with ⟨_, _, _, rfl⟩ | ⟨_, _, _, y, rfl⟩ | ⟨n, o, c', cb, _, hcb, _, _, _, rfl⟩
    · exact ⟨fun _ => rfl, by simp, fun v hv => by simp at hv, #[], fun _ _ => rfl, .nil⟩
    · refine ⟨fun _ => rfl, by simp, fun v hv => by simp at hv, #[], fun w1 _ => ?_, .nil⟩
      cases y with
      | none => rfl
      | some a =>
        unfold Builtin.firstCells
        rw [Nat.zero_mul]
        rfl
    · refine ⟨fun _ => rfl, by simp, fun v hv => by simp at hv, #[], fun w1 _ => ?_, .nil⟩
      unfold Builtin.firstCells
      rw [Nat.zero_mul]
      rfl
  · rename_i n o len c hne
    obtain ⟨b, hb, h⟩ := Option.bind_eq_some_iff.1 h
    split at h
    · rename_i hl
      obtain ⟨rfl, rfl⟩ := Prod.mk.inj (Option.some.inj h)
      rcases hx.slc_inv with ⟨h0, _⟩ | ⟨_, _, h0, _⟩ | ⟨n', o', c', cb, he, hcb, h1, h2, h3, rfl⟩
      · simp at h0
      · subst h0
        exact (hne rfl).elim
      · simp only [Option.some.injEq, Addr.mk.injEq] at he
        obtain ⟨rfl, rfl, _⟩ := he
        have hh := hs.holds n cb b hcb hb
        obtain ⟨cs, hcs, hr, hcell⟩ := hh.cells hl
        refine ⟨fun _ => rfl, by rw [List.length_take, List.length_drop]; omega, fun v hv => hh.one v (List.mem_of_mem_drop (List.mem_of_mem_take hv)), cs.toArray, fun w1 hw1 => ?_, by simpa using hr⟩
        unfold Builtin.firstCells
        have := run_loadCells_list (P := P) w1 _ cs (fun j v hj => by
          have := hcell j v hj
          unfold World.cell? at this ⊢
          rw [hw1]
          exact this)
        rw [hcs] at this
        exact this
    · simp at h
  · rename_i s
    obtain rfl := hx.string_inv
    split at h
    · rename_i hsz
      subst hsz
      obtain ⟨rfl, rfl⟩ := Prod.mk.inj (Option.some.inj h)
      refine ⟨fun _ => rfl, ?_, fun v hv => ?_, s.data.map fun b => .int .u8 b.toNat, fun w1 _ => ?_, ?_⟩
      · simp
      · obtain ⟨b, _, rfl⟩ := List.mem_map.1 hv
        rfl
      · have : s.extract 0 s.size = s := ByteArray.extract_zero_size (b := s)
        show Result.ok ((s.extract 0 s.size).data.map fun b => Value.int .u8 b.toNat) w1 = _
        rw [this]
      · rw [Array.toList_map]
        exact RelL.scal fun v hv => by
          obtain ⟨b, _, rfl⟩ := List.mem_map.1 hv
          rfl
    · simp at h
  · simp at h

theorem cap_bound (need old : Nat) (h : old < need) : 4 * Builtin.nextslicecap need old ≤ 5 * need + 2048 := by
  have grow : ∀ (r c : Nat), 4 * c ≤ 5 * need + 768 → 4 * Builtin.growBy need r c ≤ 5 * need + 768 := by
    intro r
    induction r with
    | zero => intro c h1; unfold Builtin.growBy; omega
    | succ r ih =>
      intro c h1
      unfold Builtin.growBy
      split
      · omega
      · exact ih _ (by omega)
  unfold Builtin.nextslicecap
  split
  · omega
  · split
    · omega
    · have := grow 4 old (by omega)
      omega

theorem newCap_ge (need : Nat) (old : Nat) (e : TypeId) (t : Nat) : need ≤ (Question.appendCap need old e).cut t := by
  simp only [Question.cut]
  omega

/-- An append that makes a new row. -/
theorem run_append_new {t0 t1 e ty : TypeId} {xt : TypeDesc} {ie : TypeInfo} {z : Value} {x' : Value} {y : Option Addr} {len c' m : Nat} {old new : Array Value} (hu0 : P.underlying t0 = some (.slice e)) (hu1 : P.underlying t1 = some xt) (hxt : (∃ e', xt = .slice e') ∨ xt = .string) (hie : P.info? e = some ie) (hz : tzero P e = some z)
    (hb0 : 0 < P.bytesOf e) (hlen : ∀ w : World, (Builtin.lenOf x').run P w = .ok m w) (hnew : ∀ w1 : World, w1.heap = w.heap → (Builtin.firstCells (P.cellsOf e) m x').run P w1 = .ok new w1)
    (hold : ∀ w1 : World, w1.heap = w.heap → (Builtin.firstCells (P.cellsOf e) len (.slice y len c')).run P w1 = .ok old w1) (hneed : c' < len + m) (hlim : (len + m + 410) * P.bytesOf e ≤ 225179981368524) :
    ∃ N, len + m ≤ N ∧ (Builtin.append_ #[t0, t1] ty #[.slice y len c', x']).run P w = .ok (.slice (some ⟨w.heap.size, 0, none⟩) (len + m) N) { w with heap := w.heap.push (.cells (old ++ new ++ Builtin.zeroCells z.cells (N - (len + m))) e), drawn := w.drawn + 1 } := by
  refine ⟨(Question.appendCap (len + m) c' e).cut (w.tape w.drawn (.appendCap (len + m) c' e)), newCap_ge _ _ _ _, ?_⟩
  have hB : P.bytesOf e = ie.bytes := by simp [Program.bytesOf, hie]
  have hcap := cap_bound (len + m) c' hneed
  have hcap2 : Builtin.nextslicecap (len + m) c' * ie.bytes ≤ 2 ^ 48 := by
    rw [hB] at hlim
    have h4 := Nat.mul_le_mul_right ie.bytes hcap
    rw [Nat.mul_assoc] at h4
    have h5 : (5 * (len + m) + 2048) * ie.bytes ≤ 5 * ((len + m + 410) * ie.bytes) := by
      rw [← Nat.mul_assoc]
      exact Nat.mul_le_mul_right _ (by omega)
    omega
  have hw1 : ({ w with drawn := w.drawn + 1 } : World).heap = w.heap := rfl
  rcases hxt with ⟨e', rfl⟩ | rfl
  all_goals
    unfold Builtin.append_
    simp only [List.getElem?_toArray, List.getElem?_cons_zero, List.getElem?_cons_succ, Sem.run_bind, run_underlying hu0, run_underlying hu1, Result.andThen_ok, run_sizeOf w hie, Sem.run_pure, Bool.false_eq_true, if_false, Bool.not_false, if_true, hlen]
    rw [if_neg (by omega)]
    simp only [Sem.run_bind, run_typeInfo w hie, Result.andThen_ok]
    rw [if_neg (by rw [hB] at hb0; simp; omega)]
    simp only [Sem.run_bind, run_typeInfo w hie, Result.andThen_ok]
    rw [if_neg (by omega)]
    simp only [Sem.run_bind, run_choose, Question.forced, Bool.false_eq_true, if_false, Result.andThen_ok, run_typeInfo _ hie, run_askRoom, hold _ hw1, Bool.not_false, if_true, hnew _ hw1, run_zero hz, newRow, run_newObj, Sem.run_pure]

theorem run_append_in {t0 t1 e ty : TypeId} {xt : TypeDesc} {ie : TypeInfo} {x' : Value} {y : Option Addr} {len c' m : Nat} {new : Array Value} {w1 : World} (hu0 : P.underlying t0 = some (.slice e)) (hu1 : P.underlying t1 = some xt) (hxt : (∃ e', xt = .slice e') ∨ xt = .string) (hie : P.info? e = some ie)
    (hlen : ∀ w : World, (Builtin.lenOf x').run P w = .ok m w) (hnew : (Builtin.firstCells (P.cellsOf e) m x').run P w = .ok new w) (hneed : len + m ≤ c')
    (hstore : match y with | some a => (storeCells (a.add (len * P.cellsOf e)) new.toList).run P w = .ok () w1 | none => w1 = w) :
    (Builtin.append_ #[t0, t1] ty #[.slice y len c', x']).run P w = .ok (.slice y (len + m) c') w1 := by
  rcases hxt with ⟨e', rfl⟩ | rfl
  all_goals
    unfold Builtin.append_
    simp only [List.getElem?_toArray, List.getElem?_cons_zero, List.getElem?_cons_succ, Sem.run_bind, run_underlying hu0, run_underlying hu1, Result.andThen_ok, run_sizeOf w hie, Sem.run_pure, Bool.false_eq_true, if_false, hlen]
    rw [if_pos hneed]
    simp only [Bool.not_false, if_true, Sem.run_bind, hnew, Result.andThen_ok]
    cases y with
    | none =>
      simp only at hstore
      subst hstore
      rfl
    | some a =>
      simp only at hstore
      simp only [Sem.run_bind, hstore, Result.andThen_ok, Sem.run_pure]

/-- A dead name, and nothing else. -/
theorem sim_kill (hs : Sim base G β σ w) (n : Nat) : Sim base G β (σ.set n none) w := by
  have lk : ∀ m x, look (σ.set n none) m = some x → look σ m = some x := fun m x h => by
    by_cases hmn : m = n
    · subst hmn
      rcases Nat.lt_or_ge m σ.length with h' | h'
      · rw [look_set_eq h'] at h; simp at h
      · rw [List.set_eq_of_length_le h'] at h; exact h
    · rw [look_set_ne hmn] at h; exact h
  exact ⟨hs.size, fun m cb x h1 h2 => hs.holds m cb x h1 (lk m x h2), fun m cb x h1 h2 => hs.ge m cb x h1 (lk m x h2), fun m k cb1 cb2 x1 x2 h0 h1 h2 h3 h4 => hs.disj m k cb1 cb2 x1 x2 h0 h1 h2 (lk m x1 h3) (lk k x2 h4),
    hs.glob⟩

/-- A new name that stands nowhere: it is empty. -/
theorem sim_empty (hs : Sim base G β σ w) (hf : β σ.length = none) (sz : Nat) : Sim base G β (σ ++ [some ⟨[], true, sz⟩]) w ∧ Step β σ w β (σ ++ [some ⟨[], true, sz⟩]) w := by
  have lk : ∀ m x cb, β m = some cb → look (σ ++ [some ⟨[], true, sz⟩]) m = some x → look σ m = some x := fun m x cb hb h => by
    rcases look_append_some h with ⟨_, h⟩ | ⟨rfl, _⟩
    · exact h
    · rw [hf] at hb; simp at hb
  refine ⟨⟨hs.size, fun m cb x h1 h2 => hs.holds m cb x h1 (lk m x cb h1 h2), fun m cb x h1 h2 => hs.ge m cb x h1 (lk m x cb h1 h2), fun m k cb1 cb2 x1 x2 h0 h1 h2 h3 h4 => hs.disj m k cb1 cb2 x1 x2 h0 h1 h2 (lk m x1 _ h1 h3) (lk k x2 _ h2 h4), hs.glob⟩,
    ⟨by simp, fun n hn h => by rw [look_append_lt hn]; exact h, fun n h1 h2 => by have : n = σ.length := by simp at h2; omega
                                                                                  rw [this]; exact hf, fun _ _ h => h, fun _ _ h => .inl h, Nat.le_refl _, rfl, rfl, rfl, fun _ _ _ => rfl⟩⟩

theorem step_kill {n : Nat} {o : Option Blk} {β' : Map} {w' : World} (h : Step β (σ.set n none) w β' ((σ.set n none) ++ [o]) w') : Step β σ w β' ((σ.set n none) ++ [o]) w' := by
  have hl : (σ.set n none).length = σ.length := by simp
  have lk : ∀ m x, look (σ.set n none) m = some x → look σ m = some x := fun m x h => by
    by_cases hmn : m = n
    · subst hmn
      rcases Nat.lt_or_ge m σ.length with h' | h'
      · rw [look_set_eq h'] at h; simp at h
      · rw [List.set_eq_of_length_le h'] at h; exact h
    · rw [look_set_ne hmn] at h; exact h
  refine ⟨by simp, fun m hm h0 => ?_, fun m h1 h2 => h.fresh m (by rw [hl]; exact h1) h2, h.sub, fun m cb hm => ?_, h.size, h.os, h.tape, h.output, fun k hk hh => h.frame k hk fun m x cb h1 => hh m x cb (lk m x h1)⟩
  · refine h.dead m (by rw [hl]; exact hm) ?_
    by_cases hmn : m = n
    · subst hmn; rw [look_set_eq hm]
    · rw [look_set_ne hmn]; exact h0
  · rcases h.dom m cb hm with h1 | ⟨h1, h2, h3, h4, h5⟩
    · exact .inl h1
    · refine .inr ⟨h1, by rw [hl] at h2; exact h2, h3, h4, ?_⟩
      rcases h5 with h5 | ⟨k, x, ck, h6, h7⟩
      · exact .inl h5
      · exact .inr ⟨k, x, ck, lk k x h6, h7⟩

theorem append_done (hs : Sim base G β σ w) {argTypes : Array TypeId} {ty : TypeId} (hat : argTypes.size = 2) {s s' x x' v : Value} {σ' : Heap} (hrs : Rel β s s') (hrx : Rel β x x')
    (h : aappend P σ argTypes s x = some (v, σ')) (hf : ∀ n, σ.length ≤ n → n < σ'.length → β n = none) :
    Done base G β σ w σ' v (((Builtin.append_ argTypes ty #[s', x']).run P w).andThen fun v w' => .ok (.value v) w') := by
  obtain ⟨t0, t1, rfl⟩ : ∃ t0 t1, argTypes = #[t0, t1] := by
    obtain ⟨l⟩ := argTypes
    match l, hat with
    | [a, b], _ => exact ⟨a, b, rfl⟩
  unfold aappend at h
  simp only [List.getElem?_toArray, List.getElem?_cons_zero, List.getElem?_cons_succ, Option.bind_some] at h
  split at h
  case h_2 => simp at h
  rename_i e xt hu0 hu1
  split at h
  case isFalse => simp at h
  rename_i hc
  obtain ⟨hi0, hsrc⟩ := hc
  obtain ⟨ie, hie⟩ := info_some hi0
  obtain ⟨z, hz, h⟩ := Option.bind_eq_some_iff.1 h
  split at h
  case isFalse => simp at h
  rename_i hc
  obtain ⟨hzs, hz0, hb0⟩ := hc
  obtain ⟨⟨m, cells⟩, hnew, h⟩ := Option.bind_eq_some_iff.1 h
  split at h
  case h_2 => simp at h
  rename_i a len c h9 h10
  split at h
  case isFalse => simp at h
  rename_i hlim
  simp only at hlim h
  have hxt : (∃ e', xt = .slice e') ∨ xt = .string := by
    cases xt <;> simp [srcOk] at hsrc <;> simp
  obtain ⟨hlen, hcl, hone, arr, hfirst, hrel⟩ := src_ok (P := P) hs hrx hnew
  have harr : arr.size = m * P.cellsOf e := by
    have := hrel.length
    simp at this
    omega
  have hzero : ∀ k, (Builtin.zeroCells z.cells k).size = k * P.cellsOf e := fun k => by simp [Builtin.zeroCells, hzs]
  have hpre : ∀ (zs : Array Value) (i : Nat) (u : Value), cells[i]? = some u → ∃ u', (#[] ++ arr ++ zs)[i]? = some u' ∧ Rel β u u' := fun zs i u hu => by
    obtain ⟨u', h1, h2⟩ := rel_prefix hrel i u hu
    refine ⟨u', ?_, h2⟩
    have hlt := (Array.getElem?_eq_some_iff.1 h1).1
    rw [Array.getElem?_append_left (by simpa using hlt)]
    simpa using h1
  have empty_old : ∀ (y : Option Addr) (c' : Nat) (w1 : World), (Builtin.firstCells (P.cellsOf e) 0 (.slice y 0 c')).run P w1 = .ok #[] w1 := fun y c' w1 => by
    cases y with
    | none => rfl
    | some a =>
      unfold Builtin.firstCells
      rw [Nat.zero_mul]
      rfl
  have empty_new : m = 0 → cells = [] ∧ arr = #[] := fun hm => by
    subst hm
    simp at hcl harr
    exact ⟨hcl, harr⟩
  have empty_in : ∀ y : Option Addr, m = 0 → (Builtin.append_ #[t0, t1] ty #[.slice y 0 0, x']).run P w = .ok (.slice y 0 0) w := fun y hm => by
    have h1 := run_append_in (P := P) (ty := ty) (y := y) (len := 0) (c' := 0) (w1 := w) hu0 hu1 hxt hie hlen (hfirst w rfl) (by omega) (by
      obtain ⟨_, rfl⟩ := empty_new hm
      cases y with
      | none => rfl
      | some a => rfl)
    subst hm
    exact h1
  split at h
  · rename_i hcase
    obtain ⟨rfl, rfl⟩ := hcase
    simp only [Option.some.injEq, Prod.mk.injEq] at h
    obtain ⟨rfl, rfl⟩ := h
    have hfl : β σ.length = none := hf _ (Nat.le_refl _) (by simp)
    obtain ⟨y, rfl⟩ : ∃ y, s' = .slice y 0 0 := by
      rcases hrs.slc_inv with ⟨_, _, _, rfl⟩ | ⟨_, _, _, y, rfl⟩ | ⟨_, _, c', cb, _, _, _, h2, _, rfl⟩
      · exact ⟨_, rfl⟩
      · exact ⟨_, rfl⟩
      · rw [h2 rfl]; exact ⟨_, rfl⟩
    by_cases hm : m = 0
    · obtain ⟨rfl, _⟩ := empty_new hm
      obtain ⟨s1, s2⟩ := sim_empty hs hfl (P.cellsOf e)
      refine ⟨.slice y 0 0, w, β, .inl ?_, ?_, s1, s2⟩
      · rw [empty_in y hm]; rfl
      · subst hm; exact .slc0 _ _ _
    · obtain ⟨N, hN, hrun⟩ := run_append_new (P := P) (ty := ty) (y := y) (len := 0) (c' := 0) (old := #[]) hu0 hu1 hxt hie hz hb0 hlen hfirst (fun w1 _ => empty_old y 0 w1) (by omega) hlim
      obtain ⟨s1, s2⟩ := sim_new (sz := P.cellsOf e) (w' := { w with heap := w.heap.push (.cells (#[] ++ arr ++ Builtin.zeroCells z.cells (N - (0 + m))) e), drawn := w.drawn + 1 }) hs hfl rfl rfl rfl rfl
        (by simp only [Array.size_append, hzero, harr, hcl]; simp) hone (hpre _)
      refine ⟨.slice (some ⟨w.heap.size, 0, none⟩) (0 + m) N, _, _, .inl ?_, ?_, s1, s2⟩
      · rw [hrun]; rfl
      · rw [Nat.zero_add] at hN ⊢
        refine .slc σ.length 0 m (m + 1) N _ (Map.upd_same _ _ _) hN (fun h => by omega) (fun _ => ?_)
        simp only [Array.size_append, hzero, harr]
        simp only [Array.size_empty, Nat.zero_add, ← Nat.add_mul]
        exact Nat.mul_le_mul_right _ (by omega)
  · rename_i hcase
    split at h
    case h_2 => simp at h
    rename_i n o
    obtain ⟨b, hb, h⟩ := Option.bind_eq_some_iff.1 h
    split at h
    case isFalse => simp at h
    rename_i hc
    obtain ⟨hbo, hbs, hbl⟩ := hc
    simp only [Option.some.injEq, Prod.mk.injEq] at h
    obtain ⟨rfl, rfl⟩ := h
    have hln : (σ.set n none).length = σ.length := by simp
    have hfl : β σ.length = none := hf _ (Nat.le_refl _) (by simp)
    rcases hrs.slc_inv with ⟨h0, _⟩ | ⟨_, _, rfl, y, rfl⟩ | ⟨n', o', c', cb, he, hcb, k1, k2, k3, rfl⟩
    · simp at h0
    · have hdrop : b.cells.drop o = [] := List.drop_eq_nil_iff.2 (by omega)
      rw [hdrop, List.nil_append]
      by_cases hm : m = 0
      · obtain ⟨rfl, _⟩ := empty_new hm
        have hk := sim_kill hs n
        obtain ⟨s1, s2⟩ := sim_empty hk (by rw [hln]; exact hfl) (P.cellsOf e)
        refine ⟨.slice y 0 0, w, β, .inl ?_, ?_, s1, step_kill s2⟩
        · rw [empty_in y hm]; rfl
        · subst hm; exact .slc0 _ _ _
      · obtain ⟨N, hN, hrun⟩ := run_append_new (P := P) (ty := ty) (y := y) (len := 0) (c' := 0) (old := #[]) hu0 hu1 hxt hie hz hb0 hlen hfirst (fun w1 _ => empty_old y 0 w1) (by omega) hlim
        obtain ⟨s1, s2⟩ := sim_moved (sz := P.cellsOf e) (w' := { w with heap := w.heap.push (.cells (#[] ++ arr ++ Builtin.zeroCells z.cells (N - (0 + m))) e), drawn := w.drawn + 1 }) hs hfl hb rfl rfl rfl rfl
          (by simp only [Array.size_append, hzero, harr, hcl]; simp) hone (hpre _)
        refine ⟨.slice (some ⟨w.heap.size, 0, none⟩) (0 + m) N, _, _, .inl ?_, ?_, s1, s2⟩
        · rw [hrun]; rfl
        · rw [Nat.zero_add] at hN ⊢
          refine .slc σ.length 0 m (m + 1) N _ (Map.upd_same _ _ _) hN (fun h => by omega) (fun _ => ?_)
          simp only [Array.size_append, hzero, harr]
          simp only [Array.size_empty, Nat.zero_add, ← Nat.add_mul]
          exact Nat.mul_le_mul_right _ (by omega)
    · simp only [Option.some.injEq, Addr.mk.injEq] at he
      obtain ⟨rfl, rfl, _⟩ := he
      have hh := hs.holds n cb b hcb hb
      have hco : cb.own = true := hh.own.trans hbo
      have hcs : cb.sz = P.cellsOf e := hh.sz.trans hbs
      have k3' := k3 hco
      rw [hcs] at k3'
      obtain ⟨c0, e0, frz, hobj, q1, q2, q3⟩ := hh.obj
      have hroom := hh.len
      have hone2 : ∀ v ∈ b.cells.drop o ++ cells, v.oneCell' = true := fun v hv => by
        rcases List.mem_append.1 hv with hv | hv
        · exact hh.one v (List.mem_of_mem_drop hv)
        · exact hone v hv
      have hdl : (b.cells.drop o).length = len * P.cellsOf e := by rw [List.length_drop]; omega
      by_cases hneed : len + m ≤ c'
      · have hmul : (len + m) * P.cellsOf e ≤ c' * P.cellsOf e := Nat.mul_le_mul_right _ hneed
        rw [Nat.add_mul] at hmul
        obtain ⟨w', hr, r1, r2, r3, r4, r5, r6⟩ := run_stores (P := P) cb.blk e0 frz (q2 hco) arr.toList (cb.off + o + len * P.cellsOf e) 0 c0 w hobj (by simp [harr]; omega) (relL_oneCell hrel hone)
        have hrun := run_append_in (P := P) (ty := ty) (y := some ⟨cb.blk, cb.off + o, none⟩) (len := len) (c' := c') (w1 := w') hu0 hu1 hxt hie hlen (hfirst w rfl) hneed (by simp only [addr_add]; exact hr)
        obtain ⟨s1, s2⟩ := sim_again (sz := P.cellsOf e) (d := o) (w' := w') (cells := b.cells.drop o ++ cells) hs hfl hb hcb hbo hobj r1 (by simp [setAll_length]) r2 r3 r4 r5 r6 (by omega) hone2 (by rw [List.length_append, hdl, hcl]; omega) (by
          intro i u hu
          rw [List.getElem?_toArray, setAll_get _ _ _ _ (by simp [harr]; omega)]
          simp only [Array.length_toList, harr]
          by_cases hi : i < len * P.cellsOf e
          · rw [if_neg (by omega)]
            rw [List.getElem?_append_left (by omega), List.getElem?_drop] at hu
            obtain ⟨u', h1, h2⟩ := q3 (o + i) u hu
            exact ⟨u', by rw [Array.getElem?_toList, Nat.add_assoc]; exact h1, h2⟩
          · rw [List.getElem?_append_right (by omega), hdl] at hu
            have hi2 := (List.getElem?_eq_some_iff.1 hu).1
            rw [if_pos (by omega)]
            obtain ⟨u', h1, h2⟩ := hrel.get _ u hu
            exact ⟨u', by rw [show cb.off + o + i - (cb.off + o + len * P.cellsOf e + 0) = i - len * P.cellsOf e by omega]; exact h1, h2⟩)
        refine ⟨.slice (some ⟨cb.blk, cb.off + o, none⟩) (len + m) c', w', _, .inl ?_, ?_, s1, s2⟩
        · rw [hrun]; rfl
        · exact .slc σ.length 0 (len + m) (len + m + 1) c' ⟨cb.blk, cb.off + o, cb.room - o, true, P.cellsOf e⟩ (Map.upd_same _ _ _) hneed (fun h => by omega) (fun _ => by show 0 + c' * P.cellsOf e ≤ cb.room - o; omega)
      · obtain ⟨cs, hcsl, hcr, hcell⟩ := hh.cells (o := o) (n := len * P.cellsOf e) (by omega)
        have hold : ∀ w1 : World, w1.heap = w.heap → (Builtin.firstCells (P.cellsOf e) len (.slice (some ⟨cb.blk, cb.off + o, none⟩) len c')).run P w1 = .ok cs.toArray w1 := fun w1 hw1 => by
          unfold Builtin.firstCells
          have := run_loadCells_list (P := P) w1 _ cs (fun j v hj => by
            have := hcell j v hj
            unfold World.cell? at this ⊢
            rw [hw1]
            exact this)
          rw [hcsl] at this
          exact this
        obtain ⟨N, hN, hrun⟩ := run_append_new (P := P) (ty := ty) (y := some ⟨cb.blk, cb.off + o, none⟩) (len := len) (c' := c') (old := cs.toArray) hu0 hu1 hxt hie hz hb0 hlen hfirst hold (by omega) hlim
        have htake : (b.cells.drop o).take (len * P.cellsOf e) = b.cells.drop o := List.take_of_length_le (by omega)
        rw [htake] at hcr
        have hall : RelL β (b.cells.drop o ++ cells) (cs ++ arr.toList) := hcr.append hrel
        obtain ⟨s1, s2⟩ := sim_moved (sz := P.cellsOf e) (cells := b.cells.drop o ++ cells) (w' := { w with heap := w.heap.push (.cells (cs.toArray ++ arr ++ Builtin.zeroCells z.cells (N - (len + m))) e), drawn := w.drawn + 1 }) hs hfl hb rfl rfl rfl rfl
          (by simp only [Array.size_append, hzero, harr, List.length_append, hdl, hcl, List.size_toArray, hcsl]; omega) hone2 (fun i u hu => by
            obtain ⟨u', h1, h2⟩ := hall.get i u hu
            have hlt := (List.getElem?_eq_some_iff.1 h1).1
            refine ⟨u', ?_, h2⟩
            rw [Array.getElem?_append_left (by simp at hlt ⊢; omega)]
            rw [← Array.getElem?_toList]
            simpa using h1)
        refine ⟨.slice (some ⟨w.heap.size, 0, none⟩) (len + m) N, _, _, .inl ?_, ?_, s1, s2⟩
        · rw [hrun]; rfl
        · refine .slc σ.length 0 (len + m) (len + m + 1) N _ (Map.upd_same _ _ _) hN (fun h => by omega) (fun _ => ?_)
          simp only [Array.size_append, hzero, harr, List.size_toArray, hcsl]
          rw [← Nat.add_mul, ← Nat.add_mul, Nat.zero_add]
          exact Nat.mul_le_mul_right _ (by omega)

theorem relP_map {ρ cρ : Operand → Value} : ∀ (l : List (Nat × Operand)), (∀ p ∈ l, Rel β (ρ p.2) (cρ p.2)) → RelP β (l.map fun p => (p.1, ρ p.2)) (l.map fun p => (p.1, cρ p.2))
  | [], _ => .nil
  | (i, x) :: l, h => .cons i _ _ _ _ (h (i, x) (by simp)) (relP_map l fun p hp => h p (by simp [hp]))
theorem relL_map {ρ cρ : Operand → Value} : ∀ (l : List Operand), (∀ x ∈ l, Rel β (ρ x) (cρ x)) → RelL β (l.map ρ) (l.map cρ)
  | [], _ => .nil
  | x :: l, h => .cons _ _ _ _ (h x (by simp)) (relL_map l fun y hy => h y (by simp [hy]))
theorem relO_map {ρ cρ : Operand → Value} (o : Option Operand) (h : ∀ x ∈ o.toList, Rel β (ρ x) (cρ x)) : RelO β (o.map ρ) (o.map cρ) := by
  cases o with
  | none => trivial
  | some x => exact h x (by simp)

set_option maxHeartbeats 2000000 in
/-- **What an operation does in the abstract machine, it does in every world that is as the abstract heap says.** -/
theorem aop_sound {o : Oper} {ρ cρ : Operand → Value} {v : Value} {σ' : Heap} (hρ : ∀ x ∈ o.op.operands.toList, Rel β (ρ x) (cρ x)) (hs : Sim base G β σ w) (hf : ∀ n, σ.length ≤ n → n < σ'.length → β n = none)
    (h : aop P ρ σ o.op = some (v, σ')) : Done base G β σ w σ' v ((execOp cρ o).run P w) := by
  obtain ⟨dst, op, ty, pos, after, guard⟩ := o
  simp only at hρ h
  have wrapV : ∀ {s : Sem Value}, Done base G β σ w σ' v ((s.run P w).andThen fun v w' => .ok (.value v) w') → Done base G β σ w σ' v ((do pure (.value (← s)) : Sem Next).run P w) := fun h => by
    simpa only [Sem.run_bind, Sem.run_pure] using h
  have pure1 : ∀ {s : Sem Value}, σ' = σ → (∃ v', s.run P w = .ok v' w ∧ Rel β v v') → Done base G β σ w σ' v ((do pure (.value (← s)) : Sem Next).run P w) := fun he ⟨v', h1, h2⟩ => by
    subst he
    refine done_pure hs ⟨v', ?_, h2⟩
    simp only [Sem.run_bind, h1, Result.andThen_ok, Sem.run_pure]
  cases op <;> simp only [aop] at h
  case move x =>
    obtain ⟨rfl, rfl⟩ := Prod.mk.inj (Option.some.inj h)
    exact done_pure hs ⟨_, rfl, hρ x (by simp [Op.operands])⟩
  case assign x =>
    obtain ⟨rfl, rfl⟩ := Prod.mk.inj (Option.some.inj h)
    exact done_pure hs ⟨_, rfl, hρ x (by simp [Op.operands])⟩
  case pick c a b =>
    split at h
    · rename_i t hc
      obtain ⟨rfl, rfl⟩ := Prod.mk.inj (Option.some.inj h)
      have hcc := hρ c (by simp [Op.operands])
      rw [hc] at hcc
      have hcb := hcc.bool_inv
      refine done_pure hs ⟨if t then cρ a else cρ b, ?_, ?_⟩
      · simp only [execOp, Sem.run_bind, hcb, asBool, Sem.run_pure, Result.andThen_ok]
      · cases t
        · exact hρ b (by simp [Op.operands])
        · exact hρ a (by simp [Op.operands])
    · simp at h
  case alloc t =>
    split at h
    · rename_i hi
      obtain ⟨z, hz, h⟩ := Option.bind_eq_some_iff.1 h
      split at h
      · rename_i hsc
        obtain ⟨rfl, rfl⟩ := Prod.mk.inj (Option.some.inj h)
        exact wrapV (alloc_done hs hz hsc hf)
      · simp at h
    · simp at h
  case box t x =>
    split at h
    · rename_i hone
      obtain ⟨rfl, rfl⟩ := Prod.mk.inj (Option.some.inj h)
      exact wrapV (box_done hs (hρ x (by simp [Op.operands])) hone hf)
    · simp at h
  case build t parts =>
    obtain ⟨u, hu, h⟩ := Option.map_eq_some_iff.1 h
    obtain ⟨rfl, rfl⟩ := Prod.mk.inj h
    have e : execOp cρ { dst := dst, op := .build t parts, type := ty, pos := pos, after := after, guard := guard } = (do pure (.value (← Instr.build t (parts.map fun p => (p.1, cρ p.2)))) : Sem Next) := by
      simp only [execOp]
    rw [e]
    refine pure1 rfl (build_ok (parts' := parts.map fun p => (p.1, cρ p.2)) ?_ hu)
    rw [Array.toList_map]
    exact relP_map _ fun p hp => hρ p.2 (by simp only [Op.operands]; simp; exact ⟨p.1, by simpa using hp⟩)
  case buildSlice t len parts =>
    have e : execOp cρ { dst := dst, op := .buildSlice t len parts, type := ty, pos := pos, after := after, guard := guard } = (do pure (.value (← Instr.buildSlice t len (parts.map fun p => (p.1, cρ p.2)))) : Sem Next) := by
      simp only [execOp]
    rw [e]
    have hp : RelP β (parts.toList.map fun p => (p.1, ρ p.2)) (parts.map fun p => (p.1, cρ p.2)).toList := by
      rw [Array.toList_map]
      exact relP_map _ fun p hp => hρ p.2 (by simp only [Op.operands]; simp; exact ⟨p.1, by simpa using hp⟩)
    generalize (parts.map fun p => (p.1, cρ p.2)) = parts' at hp ⊢
    exact wrapV (buildSlice_done hs hp h hf)
  case load t a =>
    obtain ⟨u, hu, h⟩ := Option.map_eq_some_iff.1 h
    obtain ⟨rfl, rfl⟩ := Prod.mk.inj h
    exact pure1 rfl (load_ok hs (hρ a (by simp [Op.operands])) hu)
  case store t a x =>
    obtain ⟨u, hu, h⟩ := Option.map_eq_some_iff.1 h
    obtain ⟨rfl, rfl⟩ := Prod.mk.inj h
    have := store_done hs (hρ a (by simp [Op.operands])) (hρ x (by simp [Op.operands])) hu
    have e : ((do Instr.storeAt t (cρ a) (cρ x); pure .skip : Sem Next).run P w) = (((Instr.storeAt t (cρ a) (cρ x)).run P w).andThen fun _ w' => .ok .skip w') := by
      simp only [Sem.run_bind, Sem.run_pure]
    exact e ▸ this
  case nilCheck x =>
    obtain ⟨u, hu, h⟩ := Option.map_eq_some_iff.1 h
    obtain ⟨rfl, rfl⟩ := Prod.mk.inj h
    have hx := hρ x (by simp [Op.operands])
    unfold anilCheck at hu
    split at hu
    · rename_i a ha
      obtain rfl := Option.some.inj hu
      rw [ha] at hx
      have hx2 := hx
      obtain ⟨cb, _, _, hcx⟩ := hx.ptr_inv
      refine done_pure hs ⟨cρ x, ?_, hx2⟩
      simp only [execOp, hcx]
      rfl
    · rename_i f a b ha
      obtain rfl := Option.some.inj hu
      rw [ha] at hx
      have hx2 := hx
      obtain ⟨c, d, hcx, _⟩ := hx.func_inv
      refine done_pure hs ⟨cρ x, ?_, hx2⟩
      simp only [execOp, hcx]
      rfl
    · simp at hu
  case binOp op t x y yt =>
    split at h
    · rename_i hg
      obtain ⟨u, hu, h⟩ := Option.map_eq_some_iff.1 h
      obtain ⟨rfl, rfl⟩ := Prod.mk.inj h
      have hx := hρ x (by simp [Op.operands])
      have hy := hρ y (by simp [Op.operands])
      obtain ⟨v', h1, h2⟩ := bin_ok (w := w) hx hy hu
      have hne : ρ x ≠ junk ∧ ρ y ≠ junk := by
        unfold abin at hu
        split at hu
        · rename_i e1 e2
          exact ⟨by rw [e1]; simp [junk], by rw [e2]; simp [junk]⟩
        · rename_i e1 e2
          exact ⟨by rw [e1]; simp [junk], by rw [e2]; simp [junk]⟩
        · cases op <;> simp only at hu <;> first
            | (obtain ⟨r, hr, _⟩ := Option.map_eq_some_iff.1 hu; exact aeq_junk _ _ _ _ _ hr)
            | (simp at hu; done)
      refine done_pure hs ⟨v', ?_, h2⟩
      simp only [execOp, Sem.run_bind, guard_ok hx hy hg hne.1 hne.2, Result.andThen_ok, h1, Sem.run_pure]
    · simp at h
  case unOp op t x =>
    obtain ⟨u, hu, h⟩ := Option.map_eq_some_iff.1 h
    obtain ⟨rfl, rfl⟩ := Prod.mk.inj h
    exact pure1 rfl (unary_ok (hρ x (by simp [Op.operands])) hu)
  case convert s d x =>
    obtain ⟨u, hu, h⟩ := Option.map_eq_some_iff.1 h
    obtain ⟨rfl, rfl⟩ := Prod.mk.inj h
    exact pure1 rfl (convert_ok (hρ x (by simp [Op.operands])) hu)
  case makeInterface t x =>
    obtain ⟨u, hu, h⟩ := Option.map_eq_some_iff.1 h
    obtain ⟨rfl, rfl⟩ := Prod.mk.inj h
    exact pure1 rfl (makeInterface_ok (hρ x (by simp [Op.operands])) hu)
  case makeFunc f a b =>
    obtain ⟨rfl, rfl⟩ := Prod.mk.inj (Option.some.inj h)
    refine done_pure hs ⟨.func f (a.map cρ) (b.map cρ), ?_, .func _ _ _ _ _ ?_ ?_⟩
    · simp only [execOp, Instr.makeFunc, Sem.run_bind, Sem.run_pure, Result.andThen_ok]
    · rw [Array.toList_map, Array.toList_map]
      exact relL_map _ fun x hx => hρ x (by simp only [Op.operands]; simp; exact .inl (by simpa using hx))
    · rw [Array.toList_map, Array.toList_map]
      exact relL_map _ fun x hx => hρ x (by simp only [Op.operands]; simp; exact .inr (by simpa using hx))
  case makeSlice t n m =>
    exact wrapV (makeSlice_done hs (hρ n (by simp [Op.operands])) (hρ m (by simp [Op.operands])) h hf)
  case slice t x lo hi mx =>
    obtain ⟨u, hu, h⟩ := Option.map_eq_some_iff.1 h
    obtain ⟨rfl, rfl⟩ := Prod.mk.inj h
    refine pure1 rfl (slice_ok hs (hρ x (by simp [Op.operands])) (relO_map lo fun y hy => hρ y ?_) (relO_map hi fun y hy => hρ y ?_) (relO_map mx fun y hy => hρ y ?_) hu)
    · simp only [Op.operands]
      simp only [Array.toList_append, List.mem_append]
      cases lo <;> simp at hy; subst hy; simp
    · simp only [Op.operands]
      simp only [Array.toList_append, List.mem_append]
      cases hi <;> simp at hy; subst hy; simp
    · simp only [Op.operands]
      simp only [Array.toList_append, List.mem_append]
      cases mx <;> simp at hy; subst hy; simp
  case fieldAddr s x f =>
    obtain ⟨u, hu, h⟩ := Option.map_eq_some_iff.1 h
    obtain ⟨rfl, rfl⟩ := Prod.mk.inj h
    exact pure1 rfl (fieldAddr_ok (hρ x (by simp [Op.operands])) hu)
  case field s x f =>
    obtain ⟨u, hu, h⟩ := Option.map_eq_some_iff.1 h
    obtain ⟨rfl, rfl⟩ := Prod.mk.inj h
    exact pure1 rfl (field_ok (hρ x (by simp [Op.operands])) hu)
  case indexAddr t x i =>
    obtain ⟨u, hu, h⟩ := Option.map_eq_some_iff.1 h
    obtain ⟨rfl, rfl⟩ := Prod.mk.inj h
    exact pure1 rfl (indexAddr_ok (hρ x (by simp [Op.operands])) (hρ i (by simp [Op.operands])) hu)
  case index t x i =>
    obtain ⟨u, hu, h⟩ := Option.map_eq_some_iff.1 h
    obtain ⟨rfl, rfl⟩ := Prod.mk.inj h
    exact pure1 rfl (index_ok (hρ x (by simp [Op.operands])) (hρ i (by simp [Op.operands])) hu)
  case extract x i =>
    obtain ⟨u, hu, h⟩ := Option.map_eq_some_iff.1 h
    obtain ⟨rfl, rfl⟩ := Prod.mk.inj h
    exact pure1 rfl (extract_ok (hρ x (by simp [Op.operands])) hu)
  case call c =>
    obtain ⟨callee, args, argTypes⟩ := c
    simp only at h
    have hargs : ∀ x ∈ args.toList, Rel β (ρ x) (cρ x) := fun x hx => hρ x (by
      simp only [Op.operands, Call.operands]
      simp only [Array.toList_append, List.mem_append]
      exact .inr hx)
    split at h
    · obtain ⟨u, hu, h⟩ := Option.map_eq_some_iff.1 h
      obtain ⟨rfl, rfl⟩ := Prod.mk.inj h
      obtain ⟨v', h1, h2⟩ := len_ok (w := w) (ty := ty) (args' := args.map cρ) (by rw [Array.toList_map]; exact relL_map _ hargs) hu
      refine done_pure hs ⟨v', ?_, h2⟩
      simp only [execOp, resolve, Sem.run_bind, Sem.run_pure, Result.andThen_ok, invoke, builtin, h1]
    · split at h
      · rename_i s x hsx
        have hss := hargs s (by rw [hsx]; simp)
        have hxx := hargs x (by rw [hsx]; simp)
        have hat : argTypes.size = 2 ∨ argTypes.size ≠ 2 := Decidable.em _
        have he : args = #[s, x] := by
          apply Array.ext'
          simpa using hsx
        subst he
        have hat2 : ∃ t0 t1, argTypes[0]? = some t0 ∧ argTypes[1]? = some t1 := by
          unfold aappend at h
          cases h0 : argTypes[0]? with
          | none => rw [h0] at h; simp at h
          | some t0 =>
            cases h1 : argTypes[1]? with
            | none => rw [h0, h1] at h; simp at h
            | some t1 => exact ⟨t0, t1, rfl, rfl⟩
        obtain ⟨t0, t1, ha0, ha1⟩ := hat2
        have h' : aappend P σ #[t0, t1] (ρ s) (ρ x) = some (v, σ') := by
          unfold aappend at h ⊢
          rw [ha0, ha1] at h
          exact h
        have := append_done (ty := ty) hs (argTypes := #[t0, t1]) rfl hss hxx h' hf
        have e2 : Builtin.append_ argTypes ty #[cρ s, cρ x] = Builtin.append_ #[t0, t1] ty #[cρ s, cρ x] := by
          unfold Builtin.append_
          rw [ha0, ha1]
          rfl
        have e : (execOp cρ { dst := dst, op := .call { callee := .builtin .append, args := #[s, x], argTypes := argTypes }, type := ty, pos := pos, after := after, guard := guard }).run P w = (((Builtin.append_ #[t0, t1] ty #[cρ s, cρ x]).run P w).andThen fun v w' => .ok (.value v) w') := by
          simp only [execOp, resolve, Sem.run_bind, Sem.run_pure, Result.andThen_ok, invoke, builtin]
          rw [← e2, show (#[s, x] : Array Operand).map cρ = #[cρ s, cρ x] from by simp]
        rw [e]
        exact this
      · simp at h
    · simp at h
  all_goals simp at h

/-- An operation that looks at no memory does the same in every heap. -/
theorem aop_free {o : Op} {ρ : Operand → Value} {v : Value} {σ' : Heap} (hfree : heapFree o = true) (h : aop P ρ σ o = some (v, σ')) : σ' = σ ∧ ∀ σ1, aop P ρ σ1 o = some (v, σ1) := by
  cases o <;> simp only [heapFree] at hfree <;> first | (simp at hfree; done) | skip
  case call c =>
    obtain ⟨callee, args, argTypes⟩ := c
    cases callee with
    | value f => simp at hfree
    | invoke r m => simp at hfree
    | builtin b =>
      cases b <;> first | (simp at hfree; done) | skip
      simp only [aop] at h ⊢
      obtain ⟨u, hu, h⟩ := Option.map_eq_some_iff.1 h
      obtain ⟨rfl, rfl⟩ := Prod.mk.inj h
      exact ⟨rfl, fun σ1 => by rw [hu]; rfl⟩
  case pick c a b =>
    simp only [aop] at h ⊢
    split at h
    · obtain ⟨rfl, rfl⟩ := Prod.mk.inj (Option.some.inj h)
      exact ⟨rfl, fun σ1 => rfl⟩
    · simp at h
  case binOp op t x y yt =>
    simp only [aop] at h ⊢
    split at h
    · rename_i hg
      obtain ⟨u, hu, h⟩ := Option.map_eq_some_iff.1 h
      obtain ⟨rfl, rfl⟩ := Prod.mk.inj h
      exact ⟨rfl, fun σ1 => by rw [if_pos hg, hu]; rfl⟩
    · simp at h
  all_goals
    simp only [aop] at h ⊢
    first
      | (obtain ⟨rfl, rfl⟩ := Prod.mk.inj (Option.some.inj h); exact ⟨rfl, fun σ1 => rfl⟩)
      | (obtain ⟨u, hu, h⟩ := Option.map_eq_some_iff.1 h
         obtain ⟨rfl, rfl⟩ := Prod.mk.inj h
         exact ⟨rfl, fun σ1 => by rw [hu]; rfl⟩)
end
end Go.Proofs.YtkgdkommahgakaaDoor.Abs
