/- The abstract machine: what an operation does there, it does in every world that is as the abstract heap says. Part two: slices of slices, operators, parts that are put together. -/
import Derived.Test.YtkgdkommahgakaaDoorAbs4
import Derived.Laws.StructEq
namespace Go.Proofs.YtkgdkommahgakaaDoor.Abs
open Go Go.RowKit
set_option linter.unusedVariables false
set_option linter.unusedSimpArgs false

section
variable {P : Program} {base G : Nat} {β : Map} {σ : Heap} {w : World}

/-- How the bounds of a slice expression are read. -/
def RelO (β : Map) : Option Value → Option Value → Prop
  | none, none => True
  | some a, some b => Rel β a b
  | _, _ => False

theorem bound_some {v v' : Value} {l : Int} (hv : Rel β v v') (h : asI v = some l) : ∃ k, v' = .int k l := by
  unfold asI at h
  split at h
  · rename_i k n
    obtain rfl := hv.int_inv
    exact ⟨k, by rw [Option.some.inj h]⟩
  · simp at h
theorem run_sliceBound (k : IntKind) (i : Int) (y : Nat) (code : BoundsCode) (h0 : 0 ≤ i) (h1 : i ≤ y) : (Instr.sliceBound (.int k i) y code).run P w = .ok i.toNat w := by
  unfold Instr.sliceBound
  simp only [Sem.run_bind, asIntOf, Sem.run_pure, Result.andThen_ok]
  rw [if_pos ⟨h0, h1⟩]
  rfl

theorem run_bounds (isSlice : Bool) {len cap : Nat} {lo hi mx lo' hi' mx' : Option Value} {l h m : Int} (rlo : RelO β lo lo') (rhi : RelO β hi hi') (rmx : RelO β mx mx')
    (hl : abound lo 0 = some l) (hh : abound hi len = some h) (hm : abound mx len = some m) (h0 : 0 ≤ l) (h1 : l ≤ h) (h2 : h ≤ m) (h3 : m ≤ len) (h4 : mx.isSome = true → hi.isSome = true) (hc : len ≤ cap) :
    (Instr.sliceBounds isSlice len cap lo' hi' mx').run P w = .ok (l.toNat, h.toNat, if mx.isSome then m.toNat else cap) w := by
  unfold Instr.sliceBounds
  cases mx with
  | none =>
    cases mx' with
    | some _ => exact rmx.elim
    | none =>
      simp only [Sem.run_bind, Sem.run_pure, Result.andThen_ok, Option.isSome_none, Bool.false_eq_true, if_false]
      cases hi with
      | none =>
        cases hi' with
        | some _ => exact rhi.elim
        | none =>
          simp only [abound, Option.some.injEq] at hh
          cases lo with
          | none =>
            cases lo' with
            | some _ => exact rlo.elim
            | none =>
              simp only [abound, Option.some.injEq] at hl
              subst hl; subst hh
              simp
          | some v =>
            cases lo' with
            | none => exact rlo.elim
            | some v' =>
              obtain ⟨k, rfl⟩ := bound_some rlo hl
              subst hh
              simp only [Sem.run_bind, Sem.run_pure, Result.andThen_ok, run_sliceBound k l _ _ h0 h1]
              simp
      | some u =>
        cases hi' with
        | none => exact rhi.elim
        | some u' =>
          obtain ⟨k, rfl⟩ := bound_some rhi hh
          simp only [Sem.run_bind, run_sliceBound k h _ _ (by omega) (by omega : h ≤ (cap : Int)), Result.andThen_ok]
          cases lo with
          | none =>
            cases lo' with
            | some _ => exact rlo.elim
            | none =>
              simp only [abound, Option.some.injEq] at hl
              subst hl
              simp
          | some v =>
            cases lo' with
            | none => exact rlo.elim
            | some v' =>
              obtain ⟨k', rfl⟩ := bound_some rlo hl
              simp only [Sem.run_bind, run_sliceBound k' l _ _ h0 (by omega : l ≤ (h.toNat : Int)), Result.andThen_ok, Sem.run_pure]
  | some u =>
    cases mx' with
    | none => exact rmx.elim
    | some u' =>
      obtain ⟨k, rfl⟩ := bound_some rmx hm
      have := h4 rfl
      cases hi with
      | none => simp at this
      | some x =>
        cases hi' with
        | none => exact rhi.elim
        | some x' =>
          obtain ⟨k', rfl⟩ := bound_some rhi hh
          simp only [Sem.run_bind, run_sliceBound k m _ _ (by omega) (by omega : m ≤ (cap : Int)), Result.andThen_ok, run_sliceBound k' h _ _ (by omega) (by omega : h ≤ (m.toNat : Int))]
          cases lo with
          | none =>
            cases lo' with
            | some _ => exact rlo.elim
            | none =>
              simp only [abound, Option.some.injEq] at hl
              subst hl
              simp
          | some v =>
            cases lo' with
            | none => exact rlo.elim
            | some v' =>
              obtain ⟨k'', rfl⟩ := bound_some rlo hl
              simp only [Sem.run_bind, run_sliceBound k'' l _ _ h0 (by omega : l ≤ (h.toNat : Int)), Result.andThen_ok, Sem.run_pure, Option.isSome_some, if_true]

theorem slice_ok (hs : Sim base G β σ w) {t : TypeId} {x x' : Value} {lo hi mx lo' hi' mx' : Option Value} {v : Value} (hx : Rel β x x') (rlo : RelO β lo lo') (rhi : RelO β hi hi') (rmx : RelO β mx mx')
    (h : aslice P σ t x lo hi mx = some v) : ∃ v', (Instr.sliceAt t x' lo' hi' mx').run P w = .ok v' w ∧ Rel β v v' := by
  unfold aslice at h
  split at h
  · rename_i s hu
    obtain rfl := hx.string_inv
    obtain ⟨l, hl, h⟩ := Option.bind_eq_some_iff.1 h
    obtain ⟨r, hr, h⟩ := Option.bind_eq_some_iff.1 h
    split at h
    · rename_i hc
      obtain ⟨h1, h2, h3, h4⟩ := hc
      obtain rfl := Option.some.inj h
      refine ⟨_, ?_, .scal _ rfl⟩
      have hmx : mx = none := by cases mx with | none => rfl | some => simp at h1
      subst hmx
      have hmx' : mx' = none := by cases mx' with | none => rfl | some => exact rmx.elim
      subst hmx'
      have hb := run_bounds (P := P) (w := w) false rlo rhi (show RelO β none none from trivial) hl hr (show abound none (s.size : Int) = some (s.size : Int) from rfl) h2 h3 h4 (Int.le_refl _) (by simp) (Nat.le_refl s.size)
      unfold Instr.sliceAt
      simp only [Sem.run_bind, run_underlying hu, Result.andThen_ok, Instr.slice, Option.isSome_none, Bool.false_eq_true, if_false, hb, Sem.run_pure]
    · simp at h
  · rename_i e a len c hu
    split at h
    · rename_i hi0
      obtain ⟨ie, hie⟩ := info_some hi0
      obtain ⟨l, hl, h⟩ := Option.bind_eq_some_iff.1 h
      obtain ⟨r, hr, h⟩ := Option.bind_eq_some_iff.1 h
      obtain ⟨m, hm, h⟩ := Option.bind_eq_some_iff.1 h
      split at h
      · rename_i hc
        obtain ⟨⟨h1, h2, h3, h4, h5⟩, h6⟩ := hc
        obtain rfl := Option.some.inj h
        rcases hx.slc_inv with ⟨rfl, rfl, rfl, rfl⟩ | ⟨a0, rfl, rfl, y, rfl⟩ | ⟨n, o, c', cb, rfl, hcb, k1, k2, k3, rfl⟩
        · have el : l = 0 := by omega
          have er : r = 0 := by omega
          have em : m = 0 := by omega
          subst el; subst er; subst em
          have hb := run_bounds (P := P) (w := w) true rlo rhi rmx hl hr hm h1 h2 h3 h4 h5 (Nat.le_refl 0)
          refine ⟨.slice none 0 0, ?_, ?_⟩
          · unfold Instr.sliceAt
            simp only [Sem.run_bind, run_underlying hu, Result.andThen_ok, Instr.slice, hb, run_sizeOf w hie, Sem.run_pure]
            cases mx <;> simp
          · simp only [Int.sub_self, Int.toNat_zero, Option.isNone_none, if_true, Option.map_none]
            exact .scal _ rfl
        · have el : l = 0 := by omega
          have er : r = 0 := by omega
          have em : m = 0 := by omega
          subst el; subst er; subst em
          have hb := run_bounds (P := P) (w := w) true rlo rhi rmx hl hr hm h1 h2 h3 h4 h5 (Nat.le_refl 0)
          refine ⟨.slice y 0 0, ?_, ?_⟩
          · unfold Instr.sliceAt
            simp only [Sem.run_bind, run_underlying hu, Result.andThen_ok, Instr.slice, hb, run_sizeOf w hie, Sem.run_pure]
            cases mx <;> simp
          · simp only [Int.sub_self, Int.toNat_zero, Option.isNone_some, Bool.false_eq_true, if_false, Int.lt_irrefl, false_and]
            exact .slc0 _ _ _
        · have hb := run_bounds (P := P) (w := w) true rlo rhi rmx hl hr hm h1 h2 h3 h4 h5 k1
          have hrun : (Instr.sliceAt t (.slice (some ⟨cb.blk, cb.off + o, none⟩) len c') lo' hi' mx').run P w =
              .ok (.slice (if (if mx.isSome then m.toNat else c') = l.toNat then some ⟨cb.blk, cb.off + o, none⟩ else some ⟨cb.blk, cb.off + o + l.toNat * P.cellsOf e, none⟩) (r.toNat - l.toNat) ((if mx.isSome then m.toNat else c') - l.toNat)) w := by
            unfold Instr.sliceAt
            simp only [Sem.run_bind, run_underlying hu, Result.andThen_ok, Instr.slice, hb, run_sizeOf w hie, Sem.run_pure, Option.map_some, addr_add]
          rw [hrun]
          refine ⟨_, rfl, ?_⟩
          have eM : (if mx.isSome then m.toNat else c') ≤ c' := by split <;> omega
          have eh : r.toNat ≤ (if mx.isSome then m.toNat else c') := by split <;> omega
          have elh : (r - l).toNat = r.toNat - l.toNat := by omega
          generalize hMM : (if mx.isSome then m.toNat else c') = M at *
          by_cases hz : M = l.toNat
          · rw [if_pos hz]
            have z1 : r.toNat - l.toNat = 0 := by omega
            rw [elh, z1, hz, Nat.sub_self]
            simp only [Option.isNone_some, Bool.false_eq_true, if_false, if_neg (show ¬ (l < r ∧ (mx.isSome = true ∧ m = r ∨ mx.isSome = false ∧ r = (len : Int) ∧ c = len)) by omega)]
            exact .slc0 _ _ _
          · rw [if_neg hz, elh]
            simp only [Option.map_some, Option.isNone_some, Bool.false_eq_true, if_false]
            have := Rel.slc (β := β) n (o + l.toNat * P.cellsOf e) (r.toNat - l.toNat) (if l < r ∧ ((mx.isSome = true ∧ m = r) ∨ (mx.isSome = false ∧ r = len ∧ c = len)) then r.toNat - l.toNat else r.toNat - l.toNat + 1) (M - l.toNat) cb hcb (by omega) ?_ ?_
            · rw [show cb.off + o + l.toNat * P.cellsOf e = cb.off + (o + l.toNat * P.cellsOf e) by omega]
              exact this
            · intro hflag
              split at hflag
              · rename_i hcond
                rcases hcond.2 with ⟨q1, q2⟩ | ⟨q1, q2, q3⟩
                · rw [if_pos q1] at hMM
                  omega
                · rw [if_neg (by simp [q1])] at hMM
                  have := k2 q3
                  omega
              · omega
            · intro hown
              have k4 := k3 hown
              rcases h6 with h6 | h6
              · have l0 : l.toNat = 0 := by omega
                rw [l0, Nat.zero_mul, Nat.add_zero, Nat.sub_zero]
                exact Nat.le_trans (Nat.add_le_add_left (Nat.mul_le_mul_right _ eM) _) k4
              · unfold sliceable at h6
                simp only at h6
                cases hb' : look σ n with
                | none => rw [hb'] at h6; simp at h6
                | some b =>
                  rw [hb'] at h6
                  have hh := hs.holds n cb b hcb hb'
                  simp only [Bool.or_eq_true, Bool.not_eq_true', beq_iff_eq] at h6
                  have hsz : cb.sz = P.cellsOf e := by
                    rcases h6 with h6 | h6
                    · rw [hh.own, h6] at hown; simp at hown
                    · exact hh.sz.trans h6
                  rw [← hsz, Nat.add_assoc, ← Nat.add_mul]
                  refine Nat.le_trans (Nat.add_le_add_left (Nat.mul_le_mul_right _ ?_) _) k4
                  omega
      · simp at h
    · simp at h
  · simp at h

/-! ### operators -/
theorem bool_eq_dec (a b : Bool) : (a == b) = decide (a = b) := by cases a <;> cases b <;> rfl
theorem int_eq_dec (a b : Int) : (a == b) = decide (a = b) := by
  by_cases h : a = b <;> simp [h]
theorem str_eq_dec (a b : ByteArray) : (a.toList == b.toList) = decide (a = b) := by
  rw [ByteArray.toList_eq, ByteArray.toList_eq]
  by_cases h : a = b
  · simp [h]
  · rw [decide_eq_false h, beq_eq_false_iff_ne]
    intro h2
    apply h
    obtain ⟨⟨x⟩⟩ := a
    obtain ⟨⟨y⟩⟩ := b
    simp at h2
    rw [h2]

theorem eq_ok : ∀ (d : Nat) (t : TypeId) (x y x' y' : Value) (r : Bool), Rel β x x' → Rel β y y' → aeq P d t x y = some r → (Op.equalIn d t x' y').run P w = .ok r w := by
  intro d
  induction d with
  | zero => intro t x y x' y' r _ _ h; simp [aeq] at h
  | succ d ih =>
    intro t x y x' y' r hx hy h
    unfold aeq at h
    split at h
    · rename_i hu
      obtain rfl := hx.bool_inv
      obtain rfl := hy.bool_inv
      obtain rfl := Option.some.inj h
      simp [Op.equalIn, run_underlying hu, bool_eq_dec]
    · rename_i hu
      obtain rfl := hx.int_inv
      obtain rfl := hy.int_inv
      split at h
      · rename_i hk
        subst hk
        obtain rfl := Option.some.inj h
        simp [Op.equalIn, run_underlying hu, int_eq_dec]
      · simp at h
    · rename_i hu
      obtain rfl := hx.string_inv
      obtain rfl := hy.string_inv
      obtain rfl := Option.some.inj h
      simp [Op.equalIn, run_underlying hu, beq_toListBytes, str_eq_dec]
    · rename_i b hu
      obtain rfl := hx.pnil_inv
      obtain rfl := Option.some.inj h
      cases b with
      | none =>
        obtain rfl := hy.pnil_inv
        simp [Op.equalIn, run_underlying hu]
      | some a =>
        obtain ⟨cb, _, _, rfl⟩ := hy.ptr_inv
        simp [Op.equalIn, run_underlying hu]
    · rename_i hu
      obtain ⟨cb, _, _, rfl⟩ := hx.ptr_inv
      obtain rfl := hy.pnil_inv
      obtain rfl := Option.some.inj h
      simp [Op.equalIn, run_underlying hu]
    · rename_i hu
      rcases hx.slc_inv with ⟨_, _, _, rfl⟩ | ⟨_, h0, _⟩ | ⟨_, _, _, _, h0, _⟩
      · rcases hy.slc_inv with ⟨_, _, _, rfl⟩ | ⟨_, h0, _⟩ | ⟨_, _, _, _, h0, _⟩
        · obtain rfl := Option.some.inj h
          simp [Op.equalIn, run_underlying hu]
        · simp at h0
        · simp at h0
      · simp at h0
      · simp at h0
    · rename_i hu
      rcases hx.slc_inv with ⟨h0, _⟩ | ⟨_, _, h0, _⟩ | ⟨_, _, _, _, _, _, _, _, _, rfl⟩
      · simp at h0
      · simp at h0
      · rcases hy.slc_inv with ⟨_, _, _, rfl⟩ | ⟨_, h0, _⟩ | ⟨_, _, _, _, h0, _⟩
        · obtain rfl := Option.some.inj h
          simp [Op.equalIn, run_underlying hu]
        · simp at h0
        · simp at h0
    · rename_i hu
      obtain ⟨cb, c', rfl⟩ := hx.slc0_inv
      rcases hy.slc_inv with ⟨_, _, _, rfl⟩ | ⟨_, h0, _⟩ | ⟨_, _, _, _, h0, _⟩
      · obtain rfl := Option.some.inj h
        simp [Op.equalIn, run_underlying hu]
      · simp at h0
      · simp at h0
    · rename_i hu
      obtain ⟨b, rfl, _⟩ := hx.iface_inv
      obtain rfl := hy.nilIface_inv
      obtain rfl := Option.some.inj h
      simp [Op.equalIn, run_underlying hu]
    · rename_i hu
      obtain ⟨b, rfl, _⟩ := hy.iface_inv
      obtain rfl := hx.nilIface_inv
      obtain rfl := Option.some.inj h
      simp [Op.equalIn, run_underlying hu]
    · rename_i hu
      obtain ⟨b, b', rfl, _⟩ := hx.func_inv
      obtain rfl := hy.nilFunc_inv
      obtain rfl := Option.some.inj h
      simp [Op.equalIn, run_underlying hu]
    · rename_i hu
      obtain rfl := hx.nilFunc_inv
      obtain rfl := hy.nilFunc_inv
      obtain rfl := Option.some.inj h
      simp [Op.equalIn, run_underlying hu]
    · rename_i fs xs ys hu
      obtain ⟨xs', rfl, rx⟩ := hx.agg_inv
      obtain ⟨ys', rfl, ry⟩ := hy.agg_inv
      split at h
      · rename_i hc
        obtain ⟨hst, hall⟩ := hc
        have hf : P.fieldsOf t = fs := by simp [Program.fieldsOf, hu]
        rw [run_equalIn_struct w d t xs' ys' (by rw [hf]; exact hu) hst, hf]
        have hnames : ∀ f ∈ fs.toList, f.name ≠ "_" := fun f hm => by
          have := Array.all_eq_true_iff_forall_mem.1 hall f (by simpa using hm)
          simp only [Bool.and_eq_true, bne_iff_ne] at this
          exact this.2
        clear hall hf hu hx hy
        generalize fs.toList = l at *
        induction l generalizing r with
        | nil =>
          simp only [List.foldr_nil, Option.some.injEq] at h
          subst h
          simp [Op.eqFields]
        | cons f l ihl =>
          simp only [List.foldr_cons] at h
          obtain ⟨e, he, h⟩ := Option.bind_eq_some_iff.1 h
          obtain ⟨u, hu, he⟩ := Option.bind_eq_some_iff.1 he
          obtain ⟨v, hv, he⟩ := Option.bind_eq_some_iff.1 he
          obtain ⟨u', hu', ru⟩ := part_ok (w := w) rx hu
          obtain ⟨v', hv', rv⟩ := part_ok (w := w) ry hv
          have he' := ih _ _ _ _ _ _ ru rv he
          unfold Op.eqFields
          rw [if_pos (hnames f (by simp))]
          simp only [Sem.run_bind, hu', hv', he', Result.andThen_ok]
          cases e with
          | true =>
            simp only [if_true] at h
            simp only [Bool.not_true, Bool.false_eq_true, if_false]
            exact ihl _ h (fun f hf => hnames f (by simp [hf]))
          | false =>
            simp only [Bool.false_eq_true, if_false, Option.some.injEq] at h
            subst h
            simp
      · simp at h
    · simp at h

theorem aeq_junk : ∀ (d : Nat) (t : TypeId) (x y : Value) (r : Bool), aeq P d t x y = some r → x ≠ junk ∧ y ≠ junk := by
  intro d t x y r h
  cases d with
  | zero => simp [aeq] at h
  | succ d =>
    unfold aeq at h
    split at h <;> first | (cases h; done) | (constructor <;> intro h0 <;> simp [junk] at h0)

theorem Rel.of_nilIface {a : Value} (h : Rel β a .nilIface) (hu : a ≠ junk) : a = .nilIface := by
  cases h with
  | any => exact absurd rfl hu
  | scal => rfl
theorem Rel.of_agg {a : Value} {c : Array Value} (h : Rel β a (.agg c)) (hu : a ≠ junk) : ∃ b, a = .agg b := by
  cases h with
  | any => exact absurd rfl hu
  | scal _ h => simp [Abs.scal] at h
  | agg a b h => exact ⟨a, rfl⟩
theorem Rel.of_int {a : Value} {k : IntKind} {n : Int} (h : Rel β a (.int k n)) (hu : a ≠ junk) : a = .int k n := by
  cases h with
  | any => exact absurd rfl hu
  | scal => rfl
theorem Rel.of_string {a : Value} {s : ByteArray} (h : Rel β a (.string s)) (hu : a ≠ junk) : a = .string s := by
  cases h with
  | any => exact absurd rfl hu
  | scal => rfl
theorem Rel.of_float {a : Value} {k : FloatKind} {n : Nat} (h : Rel β a (.float k n)) (hu : a ≠ junk) : a = .float k n := by
  cases h with
  | any => exact absurd rfl hu
  | scal => rfl
theorem Rel.of_complex {a : Value} {k : FloatKind} {n m : Nat} (h : Rel β a (.complex k n m)) (hu : a ≠ junk) : a = .complex k n m := by
  cases h with
  | any => exact absurd rfl hu
  | scal => rfl

theorem guard_ok {op : BinOp} {t : TypeId} {x y : Operand} {a b a' b' : Value} (ha : Rel β a a') (hb : Rel β b b') (h : aguard P op t x y a b = true) (hu : a ≠ junk) (hv : b ≠ junk) :
    (eqGuard op t x y a' b').run P w = .ok () w := by
  have main : ∀ op', op' = .eql ∨ op' = .neq → aguardEq P t x y a b = true → (eqGuard op' t x y a' b').run P w = .ok () w := by
    intro op' hop hg
    have e1 : ∀ k : Sem Unit, (if (!true) = true then (pure () : Sem Unit) else k) = k := fun k => by simp
    rcases hop with rfl | rfl
    all_goals
      unfold eqGuard
      refine Eq.trans (congrArg (fun s => Sem.run P s w) (e1 _)) ?_
      split
      · have h1 := ha.of_nilIface hu
        have h2 := hb.of_nilIface hv
        subst h1; subst h2
        simp only [aguardEq] at hg
        cases x <;> cases y <;> first | rfl | (simp [constOp] at hg)
      · obtain ⟨x1, rfl⟩ := ha.of_agg hu
        obtain ⟨x2, rfl⟩ := hb.of_agg hv
        have h3 : (!(P.eqGuardType P.depth t)) = true := hg
        simp only [Sem.run_bind, run_program, Result.andThen_ok]
        refine Eq.trans (congrArg (fun s => Sem.run P s w) (if_pos h3)) rfl
      · rfl
  cases op
  case eql => exact main .eql (.inl rfl) h
  case neq => exact main .neq (.inr rfl) h
  all_goals rfl

theorem bin_ok {op : BinOp} {t : TypeId} {x y x' y' v : Value} (hx : Rel β x x') (hy : Rel β y y') (h : abin P op t x y = some v) : ∃ v', (binOp op t x' y').run P w = .ok v' w ∧ Rel β v v' := by
  unfold abin at h
  split at h
  · rename_i k a k' b
    obtain rfl := hx.int_inv
    obtain rfl := hy.int_inv
    split at h
    · rename_i hk
      refine ⟨v, ?_, ?_⟩
      · cases op
        case shl =>
          simp only [aintOp] at h
          split at h
          · simp at h
          · rename_i hb
            obtain rfl := Option.some.inj h
            simp [binOp, Op.shift, hb]
        case shr =>
          simp only [aintOp] at h
          split at h
          · simp at h
          · rename_i hb
            obtain rfl := Option.some.inj h
            simp [binOp, Op.shift, hb]
        all_goals
          have hk' : k = k' := by rcases hk with hk | hk | hk <;> first | exact hk | exact absurd hk (by decide)
          subst hk'
          simp only [aintOp] at h
        case quo =>
          split at h
          · simp at h
          · rename_i hb
            obtain rfl := Option.some.inj h
            simp [binOp, Op.intDiv, hb]
        case rem =>
          split at h
          · simp at h
          · rename_i hb
            obtain rfl := Option.some.inj h
            simp [binOp, Op.intDiv, hb]
        all_goals
          obtain rfl := Option.some.inj h
        case eql => simp [binOp, Op.intCmp, int_eq_dec]
        case neq =>
          simp only [binOp, Op.intCmp, ne_eq, not_true_eq_false, if_false, Sem.run_pure]
          congr 2
          rw [bne, int_eq_dec]
          simp
        all_goals simp [binOp, Op.intArith, Op.intBits, Op.intCmp, Go.bits]
      · have hsc : scal v = true := by
          cases op <;> simp only [aintOp] at h <;> first
            | (obtain rfl := Option.some.inj h; rfl)
            | (split at h <;> first | (simp at h; done) | (obtain rfl := Option.some.inj h; rfl))
        exact .scal v hsc
    · simp at h
  · rename_i a b
    obtain rfl := hx.string_inv
    obtain rfl := hy.string_inv
    refine ⟨v, ?_, ?_⟩
    · cases op <;> simp only [astrOp] at h <;> first | (simp at h; done) | skip
      case add =>
        split at h
        · rename_i hle
          obtain rfl := Option.some.inj h
          have hmax : IntKind.i64.max = 9223372036854775807 := by decide
          simp only [binOp, Op.stringOp, hmax]
          rw [if_neg (by omega)]
          rfl
        · simp at h
      all_goals obtain rfl := Option.some.inj h
      case eql => simp only [binOp, Op.stringOp, str_eq_dec, Sem.run_pure]
      case neq =>
        simp only [binOp, Op.stringOp, str_eq_dec, Sem.run_pure]
        simp
      case lss => simp only [binOp, Op.stringOp, Sem.run_pure]
    · have hsc : scal v = true := by
        cases op <;> simp only [astrOp] at h <;> first
          | (obtain rfl := Option.some.inj h; rfl)
          | (split at h <;> first | (simp at h; done) | (obtain rfl := Option.some.inj h; rfl))
          | (simp at h; done)
      exact .scal v hsc
  · rename_i hni hns
    have main : ∀ r, aeq P 10000 t x y = some r → (∀ op', (op' = .eql ∨ op' = .neq) → (binOp op' t x' y').run P w = ((Op.equal t x' y').run P w).andThen fun b w' => .ok (.bool (if op' = .eql then b else !b)) w') := by
      intro r hr op' hop'
      obtain ⟨hu, hv⟩ := aeq_junk _ _ _ _ _ hr
      unfold binOp
      have nf : ∀ (k : FloatKind) (n : Nat), x ≠ .float k n := fun k n h0 => by
        subst h0
        unfold aeq at hr
        split at hr <;> first | (cases hr; done) | simp_all
      have nc : ∀ (k : FloatKind) (n m : Nat), x ≠ .complex k n m := fun k n m h0 => by
        subst h0
        unfold aeq at hr
        split at hr <;> first | (cases hr; done) | simp_all
      rcases hop' with rfl | rfl
      all_goals
        split
        all_goals first
          | (rename_i heq _ _; exact absurd heq (by decide))
          | (rename_i heq _; exact absurd heq (by decide))
          | (rename_i heq; exact absurd heq (by decide))
          | skip
      all_goals first
        | (exact absurd (hx.of_int hu) (fun h1 => hni _ _ _ _ h1 (hy.of_int hv)))
        | (exact absurd (hx.of_float hu) (nf _ _))
        | (exact absurd (hx.of_complex hu) (nc _ _ _))
        | (exact absurd (hx.of_string hu) (fun h1 => hns _ _ h1 (hy.of_string hv)))
        | (exact absurd (by assumption : BinOp.eql = BinOp.neq) (by decide))
        | (exact absurd (by assumption : BinOp.neq = BinOp.eql) (by decide))
        | (simp only [Sem.run_bind, Sem.run_pure]; rfl)
        | (exact (by assumption : BinOp.eql = BinOp.eql → False) rfl |>.elim)
        | (exact (by assumption : BinOp.neq = BinOp.neq → False) rfl |>.elim)
        | (exfalso; simp_all; done)
    cases op <;> simp only at h <;> first | (simp at h; done) | skip
    case eql =>
      obtain ⟨r, hr, rfl⟩ := Option.map_eq_some_iff.1 h
      refine ⟨.bool r, ?_, .scal _ rfl⟩
      rw [main r hr .eql (.inl rfl), show (Op.equal t x' y').run P w = .ok r w from eq_ok _ _ _ _ _ _ _ hx hy hr]
      rfl
    case neq =>
      obtain ⟨r, hr, rfl⟩ := Option.map_eq_some_iff.1 h
      refine ⟨.bool (!r), ?_, .scal _ rfl⟩
      rw [main r hr .neq (.inr rfl), show (Op.equal t x' y').run P w = .ok r w from eq_ok _ _ _ _ _ _ _ hx hy hr]
      rfl
end
end Go.Proofs.YtkgdkommahgakaaDoor.Abs
