/- The abstract machine: what an operation does there, it does in every world that is as the abstract heap says. Part one: operations that make and write nothing. -/
import Derived.Test.YtkgdkommahgakaaDoorAbs3
namespace Go.Proofs.YtkgdkommahgakaaDoor.Abs
open Go Go.RowKit
set_option linter.unusedVariables false
set_option linter.unusedSimpArgs false

section
variable {P : Program} {base G : Nat} {β : Map} {σ : Heap} {w : World}

theorem run_isAgg {t : TypeId} {g : Bool} (h : aggT P t = some g) (w : World) : (isAgg t).run P w = .ok g w := by
  unfold aggT at h
  obtain ⟨d, hd, rfl⟩ := Option.map_eq_some_iff.1 h
  unfold isAgg
  simp only [Sem.run_bind, run_underlying hd, Result.andThen_ok]
  cases d <;> rfl
theorem info_of_aggT {t : TypeId} {g : Bool} (h : aggT P t = some g) : ∃ i, P.info? t = some i := by
  unfold aggT at h
  obtain ⟨d, hd, _⟩ := Option.map_eq_some_iff.1 h
  unfold Program.underlying at hd
  cases hi : P.info? t with
  | none => rw [hi] at hd; simp at hd
  | some i => exact ⟨i, rfl⟩
theorem info_of_under {t : TypeId} {d : TypeDesc} (hd : P.underlying t = some d) : ∃ i, P.info? t = some i := by
  unfold Program.underlying at hd
  cases hi : P.info? t with
  | none => rw [hi] at hd; simp at hd
  | some i => exact ⟨i, rfl⟩
theorem info_some {t : TypeId} (h : (P.info? t).isSome = true) : ∃ i, P.info? t = some i := Option.isSome_iff_exists.1 h

/-- A cell of a block that lives. -/
theorem Holds.cell {cb : CB} {b : Blk} (h : Holds β cb b w) {i : Nat} {v : Value} (hv : b.cells[i]? = some v) : ∃ v', w.cell? ⟨cb.blk, cb.off + i, none⟩ = some v' ∧ Rel β v v' := by
  obtain ⟨c, e, frz, hc, _, _, h5⟩ := h.obj
  obtain ⟨v', hv', hr⟩ := h5 i v hv
  exact ⟨v', by simp [World.cell?, hc, hv'], hr⟩
theorem addr_add (b o i : Nat) : (⟨b, o, none⟩ : Addr).add i = ⟨b, o + i, none⟩ := by
  unfold Addr.add
  split
  · rename_i h; subst h; rfl
  · rfl

/-- Some cells of a block that lives, from one on. -/
theorem Holds.cells {cb : CB} {b : Blk} (h : Holds β cb b w) {o n : Nat} (hl : o + n ≤ b.cells.length) :
    ∃ cs, cs.length = n ∧ RelL β ((b.cells.drop o).take n) cs ∧ ∀ j v, cs[j]? = some v → w.cell? ((⟨cb.blk, cb.off + o, none⟩ : Addr).add j) = some v := by
  obtain ⟨c, e, frz, hc, h3, _, h5⟩ := h.obj
  have hlen := h.len
  refine ⟨(c.toList.drop (cb.off + o)).take n, ?_, ?_, ?_⟩
  · rw [List.length_take, List.length_drop]; simp; omega
  · refine RelL.of_get (by rw [List.length_take, List.length_take, List.length_drop, List.length_drop]; simp; omega) fun i v v' h1 h2 => ?_
    rw [List.getElem?_take] at h1 h2
    split at h1
    · rename_i hi
      rw [if_pos hi] at h2
      rw [List.getElem?_drop] at h1 h2
      obtain ⟨v2, hv2, hr⟩ := h5 (o + i) v h1
      have : c.toList[cb.off + o + i]? = some v2 := by rw [Array.getElem?_toList, Nat.add_assoc]; exact hv2
      rw [this] at h2
      exact Option.some.inj h2 ▸ hr
    · simp at h1
  · intro j v hj
    rw [List.getElem?_take] at hj
    split at hj
    · rw [List.getElem?_drop] at hj
      rw [addr_add]
      simp only [World.cell?, hc]
      rw [← Array.getElem?_toList]
      simpa using hj
    · simp at hj

theorem load_ok (hs : Sim base G β σ w) {t : TypeId} {a a' v : Value} (ha : Rel β a a') (h : aload P σ t a = some v) : ∃ v', (Instr.loadAt t a').run P w = .ok v' w ∧ Rel β v v' := by
  unfold aload at h
  split at h
  · rename_i n o
    obtain ⟨cb, hcb, _, rfl⟩ := ha.ptr_inv
    obtain ⟨b, hb, h⟩ := Option.bind_eq_some_iff.1 h
    obtain ⟨g, hg, h⟩ := Option.bind_eq_some_iff.1 h
    have hh := hs.holds n cb b hcb hb
    obtain ⟨i, hi⟩ := info_of_aggT hg
    have e1 : ∀ x : Addr, (Instr.loadAt t (.pointer (some x))).run P w = (loadVar t x).run P w := fun x => rfl
    rw [e1]
    unfold loadVar
    simp only [Sem.run_bind, run_isAgg hg, Result.andThen_ok]
    cases g with
    | true =>
      simp only [if_true] at h ⊢
      split at h
      · rename_i hl
        obtain rfl := Option.some.inj h
        obtain ⟨cs, hcs, hr, hcell⟩ := hh.cells hl
        simp only [Sem.run_bind, run_sizeOf w hi, Result.andThen_ok]
        rw [← hcs, run_loadCells_list w _ cs hcell]
        exact ⟨_, rfl, .agg _ _ (by simpa [hcs] using hr)⟩
      · simp at h
    | false =>
      simp only [Bool.false_eq_true, if_false] at h ⊢
      obtain ⟨v', hv', hr⟩ := hh.cell h
      refine ⟨v', ?_, hr⟩
      rw [run_load, hv']
  · simp at h

theorem fieldAddr_ok {s : TypeId} {x x' v : Value} {f : Nat} (hx : Rel β x x') (h : afieldAddr P s x f = some v) : ∃ v', (Instr.fieldAt s x' f).run P w = .ok v' w ∧ Rel β v v' := by
  unfold afieldAddr at h
  split at h
  · rename_i fs n o hu
    obtain ⟨cb, hcb, _, rfl⟩ := hx.ptr_inv
    obtain ⟨fl, hfl, h⟩ := Option.bind_eq_some_iff.1 h
    split at h
    · simp at h
    · rename_i h0
      obtain rfl := Option.some.inj h
      have hi : ∃ i, P.info? fl.type = some i := by
        cases hi : P.info? fl.type with
        | none => simp [Program.cellsOf, hi] at h0
        | some i => exact ⟨i, rfl⟩
      obtain ⟨i, hi⟩ := hi
      refine ⟨.pointer (some ⟨cb.blk, cb.off + (o + fl.offset), none⟩), ?_, .ptr n _ cb hcb⟩
      unfold Instr.fieldAt fieldPlace
      simp only [Sem.run_bind, run_underlying hu, Result.andThen_ok, hfl, Instr.sureAddr, Sem.run_pure, run_sizeOf w hi, h0, if_false, addr_add]
      rw [Nat.add_assoc]
  · simp at h

theorem part_ok {t : TypeId} {cs cs' : Array Value} {off : Nat} {v : Value} (hc : RelL β cs.toList cs'.toList) (h : apart P t cs off = some v) : ∃ v', (part t cs' off).run P w = .ok v' w ∧ Rel β v v' := by
  unfold apart at h
  obtain ⟨g, hg, h⟩ := Option.bind_eq_some_iff.1 h
  obtain ⟨i, hi⟩ := info_of_aggT hg
  unfold part
  simp only [Sem.run_bind, run_isAgg hg, Result.andThen_ok]
  cases g with
  | true =>
    simp only [if_true] at h ⊢
    obtain rfl := Option.some.inj h
    simp only [Sem.run_bind, run_sizeOf w hi, Result.andThen_ok, Sem.run_pure]
    refine ⟨_, rfl, .agg _ _ ?_⟩
    simp only [Array.toList_extract, List.extract_eq_take_drop]
    exact (hc.drop _).take _
  | false =>
    simp only [Bool.false_eq_true, if_false] at h ⊢
    obtain ⟨v', hv', hr⟩ := hc.get off v (by rw [Array.getElem?_toList]; exact h)
    rw [Array.getElem?_toList] at hv'
    exact ⟨v', by rw [hv']; rfl, hr⟩

theorem field_ok {s : TypeId} {x x' v : Value} {f : Nat} (hx : Rel β x x') (h : afield P s x f = some v) : ∃ v', (Instr.field s x' f).run P w = .ok v' w ∧ Rel β v v' := by
  unfold afield at h
  split at h
  · rename_i fs cs hu
    obtain ⟨cs', rfl, hr⟩ := hx.agg_inv
    obtain ⟨fl, hfl, h⟩ := Option.bind_eq_some_iff.1 h
    obtain ⟨v', hv', hr'⟩ := part_ok (w := w) hr h
    refine ⟨v', ?_, hr'⟩
    unfold Instr.field
    simp only [Sem.run_bind, run_underlying hu, Result.andThen_ok, hfl, asAgg, Sem.run_pure]
    exact hv'
  · simp at h

theorem indexAddr_ok {t : TypeId} {x x' i i' v : Value} (hx : Rel β x x') (hi : Rel β i i') (h : aindexAddr P t x i = some v) : ∃ v', (Instr.indexAt t x' i').run P w = .ok v' w ∧ Rel β v v' := by
  unfold aindexAddr at h
  split at h
  · rename_i e n o len c k j hu
    obtain rfl := hi.int_inv
    split at h
    · rename_i hc
      obtain ⟨h1, h2, h3⟩ := hc
      obtain ⟨ie, hie⟩ := info_some h1
      obtain rfl := Option.some.inj h
      rcases hx.slc_inv with ⟨_, h0, _⟩ | ⟨_, _, h0, _⟩ | ⟨n', o', c', cb, he, hcb, h4, h5, h6, rfl⟩
      · omega
      · omega
      · simp only [Option.some.injEq, Addr.mk.injEq] at he
        obtain ⟨rfl, rfl, _⟩ := he
        refine ⟨.pointer (some ⟨cb.blk, cb.off + (o + j.toNat * P.cellsOf e), none⟩), ?_, .ptr n _ cb hcb⟩
        unfold Instr.indexAt
        simp only [Sem.run_bind, asIntOf, Sem.run_pure, run_underlying hu, Result.andThen_ok]
        rw [if_pos ⟨h2, h3⟩]
        simp only [Sem.run_bind, run_sizeOf w hie, Result.andThen_ok, Sem.run_pure, addr_add]
        rw [Nat.add_assoc]
    · simp at h
  · rename_i len e n o k j hu
    obtain rfl := hi.int_inv
    split at h
    · rename_i hc
      obtain ⟨h1, h2, h3⟩ := hc
      obtain ⟨ie, hie⟩ := info_some h1
      obtain rfl := Option.some.inj h
      obtain ⟨cb, hcb, _, rfl⟩ := hx.ptr_inv
      refine ⟨.pointer (some ⟨cb.blk, cb.off + (o + j.toNat * P.cellsOf e), none⟩), ?_, .ptr n _ cb hcb⟩
      unfold Instr.indexAt
      simp only [Sem.run_bind, asIntOf, Sem.run_pure, run_underlying hu, Result.andThen_ok, Instr.sureAddr]
      rw [if_pos ⟨h2, h3⟩]
      simp only [Sem.run_bind, run_sizeOf w hie, Result.andThen_ok, Sem.run_pure, addr_add]
      rw [Nat.add_assoc]
    · simp at h
  · simp at h

theorem index_ok {t : TypeId} {x x' i i' v : Value} (hx : Rel β x x') (hi : Rel β i i') (h : aindex P t x i = some v) : ∃ v', (Instr.index t x' i').run P w = .ok v' w ∧ Rel β v v' := by
  unfold aindex at h
  split at h
  · rename_i s k j hu
    obtain rfl := hi.int_inv
    obtain rfl := hx.string_inv
    split at h
    · rename_i h0
      obtain ⟨b, hb, rfl⟩ := Option.map_eq_some_iff.1 h
      refine ⟨_, ?_, .scal _ rfl⟩
      unfold Instr.index
      have hb2 : s[j.toNat]? = some b := by
        have hlt := (Array.getElem?_eq_some_iff.1 hb).1
        have : j.toNat < s.size := hlt
        rw [getElem?_pos s j.toNat this]
        have h3 := (Array.getElem?_eq_some_iff.1 hb).2
        exact congrArg some h3
      simp only [Sem.run_bind, asIntOf, Sem.run_pure, run_underlying hu, Result.andThen_ok, h0, if_true, hb2]
    · simp at h
  · rename_i len e cs k j hu
    obtain rfl := hi.int_inv
    split at h
    · rename_i hc
      obtain ⟨h1, h2, h3⟩ := hc
      obtain ⟨ie, hie⟩ := info_some h1
      obtain ⟨cs', rfl, hr⟩ := hx.agg_inv
      obtain ⟨v', hv', hr'⟩ := part_ok (w := w) hr h
      refine ⟨v', ?_, hr'⟩
      unfold Instr.index
      simp only [Sem.run_bind, asIntOf, Sem.run_pure, run_underlying hu, Result.andThen_ok]
      rw [if_pos ⟨h2, h3⟩]
      simp only [Sem.run_bind, run_sizeOf w hie, Result.andThen_ok]
      exact hv'
    · simp at h
  · simp at h

theorem extract_ok {x x' v : Value} {i : Nat} (hx : Rel β x x') (h : aextract x i = some v) : ∃ v', (Instr.extract x' i).run P w = .ok v' w ∧ Rel β v v' := by
  unfold aextract at h
  split at h
  · rename_i vs
    split at h
    case isFalse => simp at h
    rename_i hsz
    have hne : vs ≠ #[.tuple #[]] := fun h0 => by subst h0; simp at hsz
    obtain ⟨b, rfl, hr⟩ := hx.tuple_inv hne
    obtain ⟨v', hv', hr'⟩ := hr.get i v (by rw [Array.getElem?_toList]; exact h)
    rw [Array.getElem?_toList] at hv'
    refine ⟨v', ?_, hr'⟩
    simp [Instr.extract, hv']
  · simp at h

theorem convert_ok {s d : TypeId} {x x' v : Value} (hx : Rel β x x') (h : aconvert P s d x = some v) : ∃ v', (convert s d x').run P w = .ok v' w ∧ Rel β v v' := by
  unfold aconvert at h
  split at h
  · rename_i k n ds hs hd
    obtain rfl := hx.int_inv
    obtain rfl := Option.some.inj h
    refine ⟨_, ?_, .scal _ rfl⟩
    unfold convert
    simp only [Sem.run_bind, run_underlying hs, run_underlying hd, Result.andThen_ok]
    cases ds <;> rfl
  · rename_i n ds hs hd
    obtain rfl := hx.string_inv
    obtain rfl := Option.some.inj h
    refine ⟨_, ?_, .scal _ rfl⟩
    unfold convert
    simp only [Sem.run_bind, run_underlying hs, run_underlying hd, Result.andThen_ok]
    cases ds <;> rfl
  · simp at h

theorem makeInterface_ok {t : TypeId} {x x' v : Value} (hx : Rel β x x') (h : amakeInterface P t x = some v) : ∃ v', (Instr.makeInterface t x').run P w = .ok v' w ∧ Rel β v v' := by
  unfold amakeInterface at h
  split at h
  · simp at h
  · rename_i d hni hu
    obtain rfl := Option.some.inj h
    refine ⟨.iface t x', ?_, .iface _ _ _ hx⟩
    unfold Instr.makeInterface
    simp only [Sem.run_bind, run_underlying hu, Result.andThen_ok]
    cases d <;> first | rfl | exact (hni _ hu).elim
  · simp at h

theorem unary_ok {op : UnOp} {x x' v : Value} (hx : Rel β x x') (h : aunary op x = some v) : ∃ v', (Op.unary op x').run P w = .ok v' w ∧ Rel β v v' := by
  unfold aunary at h
  split at h
  · obtain rfl := hx.int_inv
    obtain rfl := Option.some.inj h
    exact ⟨_, rfl, .scal _ rfl⟩
  · rename_i k n
    obtain rfl := hx.int_inv
    obtain rfl := Option.some.inj h
    refine ⟨_, ?_, .scal _ rfl⟩
    simp only [Op.unary, Op.intBits, Go.bits]
    rfl
  · obtain rfl := hx.bool_inv
    obtain rfl := Option.some.inj h
    exact ⟨_, rfl, .scal _ rfl⟩
  · simp at h
end
end Go.Proofs.YtkgdkommahgakaaDoor.Abs
