/- An abstract machine for calls that only read what came in and write what they made: values, heaps, and when a world is as a heap says. -/
import Derived.Below
import Derived.Orders
namespace Go.Proofs.YtkgdkommahgakaaDoor.Abs
open Go Go.RowKit
set_option linter.unusedVariables false

/-- A block of the abstract heap: its cells; whether the call made it; how many cells an element has. -/
structure Blk where
  cells : List Value
  own : Bool
  sz : Nat
abbrev Heap := List (Option Blk)
def look (σ : Heap) (n : Nat) : Option Blk := (σ[n]?).getD none
/-- Where a block of the abstract heap lies in the world: the block, the offset, how many cells stand there. -/
structure CB where
  blk : Nat
  off : Nat
  room : Nat
  own : Bool
  sz : Nat
abbrev Map := Nat → Option CB

def scal : Value → Bool
  | .bool _ | .int _ _ | .float _ _ | .complex _ _ _ | .string _ | .pointer none | .slice none 0 0 | .map none | .chan none | .nilFunc | .nilIface => true
  | _ => false

/-- A value of which nothing is known. -/
def junk : Value := .tuple #[.tuple #[]]

mutual
/-- An abstract value (addresses are numbers of the abstract heap) and a value of the world. A slice's capacity: 'len' says 'just this', 'len + 1' says 'this or more'. 'junk' is every value. -/
inductive Rel (β : Map) : Value → Value → Prop
  | any (v : Value) : Rel β junk v
  | scal (v : Value) (h : scal v = true) : Rel β v v
  | ptr (n o : Nat) (cb : CB) (h : β n = some cb) : Rel β (.pointer (some ⟨n, o, none⟩)) (.pointer (some ⟨cb.blk, cb.off + o, none⟩))
  | slc0 (a : Addr) (c : Nat) (x : Option Addr) : Rel β (.slice (some a) 0 (c + 1)) (.slice x 0 0)
  | slc (n o len c c' : Nat) (cb : CB) (h : β n = some cb) (h1 : len ≤ c') (h2 : c = len → c' = len) (h3 : cb.own = true → o + c' * cb.sz ≤ cb.room) :
      Rel β (.slice (some ⟨n, o, none⟩) len c) (.slice (some ⟨cb.blk, cb.off + o, none⟩) len c')
  | agg (a b : Array Value) (h : RelL β a.toList b.toList) : Rel β (.agg a) (.agg b)
  | tuple (a b : Array Value) (h : RelL β a.toList b.toList) : Rel β (.tuple a) (.tuple b)
  | func (f : Fn) (a b a' b' : Array Value) (h : RelL β a.toList b.toList) (h' : RelL β a'.toList b'.toList) : Rel β (.func f a a') (.func f b b')
  | iface (t : TypeId) (a b : Value) (h : Rel β a b) : Rel β (.iface t a) (.iface t b)
inductive RelL (β : Map) : List Value → List Value → Prop
  | nil : RelL β [] []
  | cons (a b : Value) (as bs : List Value) (h : Rel β a b) (hs : RelL β as bs) : RelL β (a :: as) (b :: bs)
end

section
variable {β β' : Map}
theorem Rel.mono (hb : ∀ n cb, β n = some cb → β' n = some cb) {v v' : Value} (h : Rel β v v') : Rel β' v v' := by
  refine Rel.rec (motive_1 := fun a b _ => Rel β' a b) (motive_2 := fun a b _ => RelL β' a b) ?_ ?_ ?_ ?_ ?_ ?_ ?_ ?_ ?_ ?_ ?_ h
  · exact fun v => .any v
  · exact fun v h => .scal v h
  · exact fun n o cb h => .ptr n o cb (hb _ _ h)
  · exact fun a c x => .slc0 a c x
  · exact fun n o len c c' cb h h1 h2 h3 => .slc n o len c c' cb (hb _ _ h) h1 h2 h3
  · exact fun a b _ h => .agg a b h
  · exact fun a b _ h => .tuple a b h
  · exact fun f a b a' b' _ _ h h' => .func f a b a' b' h h'
  · exact fun t a b _ h => .iface t a b h
  · exact .nil
  · exact fun a b as bs _ _ h hs => .cons a b as bs h hs
theorem RelL.mono (hb : ∀ n cb, β n = some cb → β' n = some cb) : ∀ {v v' : List Value}, RelL β v v' → RelL β' v v'
  | _, _, .nil => .nil
  | _, _, .cons a b as bs h hs => .cons a b as bs (h.mono hb) (hs.mono hb)

theorem RelL.length : ∀ {a b : List Value}, RelL β a b → a.length = b.length
  | _, _, .nil => rfl
  | _, _, .cons _ _ _ _ _ hs => by simp [hs.length]
theorem RelL.get : ∀ {a b : List Value}, RelL β a b → ∀ (i : Nat) (v : Value), a[i]? = some v → ∃ v', b[i]? = some v' ∧ Rel β v v'
  | _, _, .nil, i, v, h => by simp at h
  | _, _, .cons a b as bs h hs, 0, v, hv => by
    simp only [List.getElem?_cons_zero, Option.some.injEq] at hv
    subst hv
    exact ⟨b, rfl, h⟩
  | _, _, .cons a b as bs h hs, i + 1, v, hv => by
    simp only [List.getElem?_cons_succ] at hv ⊢
    exact hs.get i v hv
theorem RelL.of_get : ∀ {a b : List Value}, a.length = b.length → (∀ (i : Nat) (v v' : Value), a[i]? = some v → b[i]? = some v' → Rel β v v') → RelL β a b
  | [], [], _, _ => .nil
  | a :: as, b :: bs, hl, h => .cons a b as bs (h 0 a b rfl rfl) (RelL.of_get (by simpa using hl) fun i v v' h1 h2 => h (i + 1) v v' (by simpa using h1) (by simpa using h2))
  | [], b :: bs, hl, _ => by simp at hl
  | a :: as, [], hl, _ => by simp at hl
theorem RelL.append : ∀ {a b c d : List Value}, RelL β a b → RelL β c d → RelL β (a ++ c) (b ++ d)
  | _, _, _, _, .nil, h2 => h2
  | _, _, _, _, .cons a b as bs h hs, h2 => .cons a b _ _ h (hs.append h2)
theorem RelL.take : ∀ {a b : List Value} (n : Nat), RelL β a b → RelL β (a.take n) (b.take n)
  | _, _, 0, _ => by simp only [List.take_zero]; exact .nil
  | _, _, _ + 1, .nil => by simp only [List.take_nil]; exact .nil
  | _, _, n + 1, .cons a b as bs h hs => by simp only [List.take_succ_cons]; exact .cons _ _ _ _ h (hs.take n)
theorem RelL.drop : ∀ {a b : List Value} (n : Nat), RelL β a b → RelL β (a.drop n) (b.drop n)
  | _, _, 0, h => h
  | _, _, _ + 1, .nil => by simp only [List.drop_nil]; exact .nil
  | _, _, n + 1, .cons a b as bs h hs => by simp only [List.drop_succ_cons]; exact hs.drop n
theorem RelL.scal : ∀ {a : List Value}, (∀ v ∈ a, Abs.scal v = true) → RelL β a a
  | [], _ => .nil
  | a :: as, h => .cons a a as as (.scal a (h a (by simp))) (RelL.scal fun v hv => h v (by simp [hv]))
theorem RelL.single {a b : Value} (h : Rel β a b) : RelL β [a] [b] := .cons a b [] [] h .nil
theorem RelL.set : ∀ {a b : List Value} (n : Nat) {v v' : Value}, RelL β a b → Rel β v v' → RelL β (a.set n v) (b.set n v')
  | _, _, _, _, _, .nil, _ => by simp only [List.set_nil]; exact .nil
  | _, _, 0, _, _, .cons a b as bs h hs, hv => by simp only [List.set_cons_zero]; exact .cons _ _ _ _ hv hs
  | _, _, n + 1, _, _, .cons a b as bs h hs, hv => by simp only [List.set_cons_succ]; exact .cons _ _ _ _ h (hs.set n hv)
theorem RelL.get' {a b : List Value} (h : RelL β a b) {i : Nat} {v' : Value} (hv : b[i]? = some v') : ∃ v, a[i]? = some v ∧ Rel β v v' := by
  have hi := (List.getElem?_eq_some_iff.1 hv).1
  have hi' : i < a.length := by rw [h.length]; exact hi
  obtain ⟨w, hw, hr⟩ := h.get i a[i] (List.getElem?_eq_getElem hi')
  rw [hv] at hw
  exact ⟨a[i], List.getElem?_eq_getElem hi', (Option.some.inj hw) ▸ hr⟩
theorem rel_undef (β : Map) : Rel β undef undef := .tuple #[] #[] .nil
theorem RelL.getD {a b : List Value} (h : RelL β a b) (i : Nat) : Rel β (a.getD i undef) (b.getD i undef) := by
  rw [List.getD_eq_getElem?_getD, List.getD_eq_getElem?_getD]
  cases ha : a[i]? with
  | none =>
    have hb : b[i]? = none := by
      rw [List.getElem?_eq_none_iff] at ha ⊢
      rw [← h.length]
      exact ha
    rw [hb]
    exact rel_undef β
  | some v =>
    obtain ⟨v', hv, hr⟩ := h.get i v ha
    rw [hv]
    exact hr

/-! ### what a value's shape tells of its partner -/
theorem Rel.int_inv {k : IntKind} {n : Int} {v : Value} (h : Rel β (.int k n) v) : v = .int k n := by
  cases h <;> first | rfl | simp_all [junk, Abs.scal]
theorem Rel.bool_inv {b : Bool} {v : Value} (h : Rel β (.bool b) v) : v = .bool b := by
  cases h <;> first | rfl | simp_all [junk, Abs.scal]
theorem Rel.string_inv {b : ByteArray} {v : Value} (h : Rel β (.string b) v) : v = .string b := by
  cases h <;> first | rfl | simp_all [junk, Abs.scal]
theorem Rel.pnil_inv {v : Value} (h : Rel β (.pointer none) v) : v = .pointer none := by
  cases h <;> first | rfl | simp_all [junk, Abs.scal]
theorem Rel.nilFunc_inv {v : Value} (h : Rel β .nilFunc v) : v = .nilFunc := by
  cases h <;> first | rfl | simp_all [junk, Abs.scal]
theorem Rel.nilIface_inv {v : Value} (h : Rel β .nilIface v) : v = .nilIface := by
  cases h <;> first | rfl | simp_all [junk, Abs.scal]
theorem Rel.ptr_inv {a : Addr} {v : Value} (h : Rel β (.pointer (some a)) v) : ∃ cb, β a.block = some cb ∧ a.spot = none ∧ v = .pointer (some ⟨cb.blk, cb.off + a.off, none⟩) := by
  cases h with
  | scal _ h => simp [Abs.scal] at h
  | ptr n o cb h => exact ⟨cb, h, rfl, rfl⟩
theorem Rel.agg_inv {a : Array Value} {v : Value} (h : Rel β (.agg a) v) : ∃ b, v = .agg b ∧ RelL β a.toList b.toList := by
  cases h with
  | scal _ h => simp [Abs.scal] at h
  | agg _ b h => exact ⟨b, rfl, h⟩
theorem Rel.tuple_inv {a : Array Value} {v : Value} (hne : a ≠ #[.tuple #[]]) (h : Rel β (.tuple a) v) : ∃ b, v = .tuple b ∧ RelL β a.toList b.toList := by
  cases h with
  | any => exact absurd rfl hne
  | scal _ h => simp [Abs.scal] at h
  | tuple _ b h => exact ⟨b, rfl, h⟩
theorem Rel.undef_inv {v : Value} (h : Rel β undef v) : v = undef := by
  obtain ⟨b, rfl, hr⟩ := Rel.tuple_inv (a := #[]) (by simp) h
  have := hr.length
  have hb : b = #[] := by
    apply Array.eq_empty_of_size_eq_zero
    simpa using this.symm
  rw [hb]
  rfl
theorem Rel.func_inv {f : Fn} {a a' : Array Value} {v : Value} (h : Rel β (.func f a a') v) : ∃ b b', v = .func f b b' ∧ RelL β a.toList b.toList ∧ RelL β a'.toList b'.toList := by
  cases h with
  | scal _ h => simp [Abs.scal] at h
  | func _ _ b _ b' h h' => exact ⟨b, b', rfl, h, h'⟩
theorem Rel.iface_inv {t : TypeId} {a : Value} {v : Value} (h : Rel β (.iface t a) v) : ∃ b, v = .iface t b ∧ Rel β a b := by
  cases h with
  | scal _ h => simp [Abs.scal] at h
  | iface _ _ b h => exact ⟨b, rfl, h⟩
theorem Rel.slc_inv {x : Option Addr} {len c : Nat} {v : Value} (h : Rel β (.slice x len c) v) :
    (x = none ∧ len = 0 ∧ c = 0 ∧ v = .slice none 0 0) ∨ (∃ a, x = some a ∧ len = 0 ∧ ∃ y, v = .slice y 0 0) ∨
    ∃ n o c' cb, x = some ⟨n, o, none⟩ ∧ β n = some cb ∧ len ≤ c' ∧ (c = len → c' = len) ∧ (cb.own = true → o + c' * cb.sz ≤ cb.room) ∧ v = .slice (some ⟨cb.blk, cb.off + o, none⟩) len c' := by
  cases h with
  | scal _ h =>
    cases x with
    | some a => simp [Abs.scal] at h
    | none =>
      cases len with
      | succ => simp [Abs.scal] at h
      | zero =>
        cases c with
        | succ => simp [Abs.scal] at h
        | zero => exact .inl ⟨rfl, rfl, rfl, rfl⟩
  | slc0 a _ y => exact .inr (.inl ⟨a, rfl, rfl, y, rfl⟩)
  | slc n o _ _ c' cb h h1 h2 h3 => exact .inr (.inr ⟨n, o, c', cb, rfl, h, h1, h2, h3, rfl⟩)

/-- An empty slice of no capacity that is told so leads somewhere. -/
theorem Rel.slc0_inv {a : Addr} {v : Value} (h : Rel β (.slice (some a) 0 0) v) : ∃ b c', v = .slice (some b) 0 c' := by
  cases h with
  | scal _ h => simp [Abs.scal] at h
  | slc n o _ _ c' cb h h1 h2 h3 => exact ⟨_, _, rfl⟩

theorem Rel.cells {v v' : Value} (h : Rel β v v') (hu : v ≠ junk) : RelL β v.cells.toList v'.cells.toList := by
  cases h with
  | any => exact absurd rfl hu
  | agg a b h => exact h
  | scal v hs =>
    cases v with
    | agg => simp [Abs.scal] at hs
    | _ => exact .single (.scal _ hs)
  | ptr n o cb h => exact .single (.ptr n o cb h)
  | slc0 a c x => exact .single (.slc0 a c x)
  | slc n o len c c' cb h h1 h2 h3 => exact .single (.slc n o len c c' cb h h1 h2 h3)
  | tuple a b h => exact .single (.tuple a b h)
  | func f a b a' b' h h' => exact .single (.func f a b a' b' h h')
  | iface t a b h => exact .single (.iface t a b h)
end

/-! ### a world that is as an abstract heap says -/
structure Holds (β : Map) (cb : CB) (b : Blk) (w : World) : Prop where
  obj : ∃ c e frz, w.heap[cb.blk]? = some (.cells c e frz) ∧ cb.off + cb.room ≤ c.size ∧ (cb.own = true → frz.2 ≤ frz.1) ∧
    ∀ i v, b.cells[i]? = some v → ∃ v', c[cb.off + i]? = some v' ∧ Rel β v v'
  len : b.cells.length ≤ cb.room
  own : cb.own = b.own
  sz : cb.sz = b.sz
  one : ∀ v ∈ b.cells, v.oneCell' = true

structure Sim (base G : Nat) (β : Map) (σ : Heap) (w : World) : Prop where
  size : base ≤ w.heap.size
  holds : ∀ n cb b, β n = some cb → look σ n = some b → Holds β cb b w
  ge : ∀ n cb b, β n = some cb → look σ n = some b → cb.own = true → base ≤ cb.blk
  disj : ∀ n m cb cb' b b', n ≠ m → β n = some cb → β m = some cb' → look σ n = some b → look σ m = some b' → cb.own = true → cb.blk ≠ cb'.blk
  glob : ∀ g, g < G → ∃ cb, β g = some cb ∧ cb.blk = g ∧ cb.off = 0

/-- What a step of the call does: the heap grows, what is dead stays dead, new names are given, and what isn't the call's own stays as it was. -/
structure Step (β : Map) (σ : Heap) (w : World) (β' : Map) (σ' : Heap) (w' : World) : Prop where
  len : σ.length ≤ σ'.length
  dead : ∀ n, n < σ.length → look σ n = none → look σ' n = none
  fresh : ∀ n, σ.length ≤ n → n < σ'.length → β n = none
  sub : ∀ n cb, β n = some cb → β' n = some cb
  dom : ∀ n cb, β' n = some cb → β n = some cb ∨ (β n = none ∧ σ.length ≤ n ∧ n < σ'.length ∧ cb.own = true ∧
    (w.heap.size ≤ cb.blk ∨ ∃ k b ck, look σ k = some b ∧ β k = some ck ∧ ck.own = true ∧ ck.blk = cb.blk))
  size : w.heap.size ≤ w'.heap.size
  os : w'.os = w.os
  tape : w'.tape = w.tape
  output : w'.output = w.output
  frame : ∀ k, k < w.heap.size → (∀ n b cb, look σ n = some b → β n = some cb → cb.own = true → cb.blk ≠ k) → w'.heap[k]? = w.heap[k]?

theorem look_lt {σ : Heap} {n : Nat} {b : Blk} (h : look σ n = some b) : n < σ.length := by
  unfold look at h
  rcases Nat.lt_or_ge n σ.length with h' | h'
  · exact h'
  · rw [List.getElem?_eq_none h'] at h; simp at h

theorem Step.alive {β β' : Map} {σ σ' : Heap} {w w' : World} (s : Step β σ w β' σ' w') {n : Nat} {b : Blk} (hn : n < σ.length) (h : look σ' n = some b) : ∃ b0, look σ n = some b0 := by
  cases h0 : look σ n with
  | none => rw [s.dead n hn h0] at h; simp at h
  | some b0 => exact ⟨b0, rfl⟩

theorem Step.refl (β : Map) (σ : Heap) (w : World) : Step β σ w β σ w :=
  ⟨Nat.le_refl _, fun _ _ h => h, fun n h1 h2 => by omega, fun _ _ h => h, fun _ _ h => .inl h, Nat.le_refl _, rfl, rfl, rfl, fun _ _ _ => rfl⟩

theorem Step.trans {β β1 β2 : Map} {σ σ1 σ2 : Heap} {w w1 w2 : World} (s : Step β σ w β1 σ1 w1) (t : Step β1 σ1 w1 β2 σ2 w2) : Step β σ w β2 σ2 w2 where
  len := Nat.le_trans s.len t.len
  dead n hn h := t.dead n (Nat.lt_of_lt_of_le hn s.len) (s.dead n hn h)
  fresh n h1 h2 := by
    rcases Nat.lt_or_ge n σ1.length with h | h
    · exact s.fresh n h1 h
    · cases hb : β n with
      | none => rfl
      | some cb =>
        have := t.fresh n h h2
        rw [s.sub n cb hb] at this
        simp at this
  sub n cb h := t.sub n cb (s.sub n cb h)
  dom n cb h := by
    rcases t.dom n cb h with h1 | ⟨hn, h1, h2, ho, h3⟩
    · rcases s.dom n cb h1 with h4 | ⟨hn, h4, h5, ho, h6⟩
      · exact .inl h4
      · exact .inr ⟨hn, h4, Nat.lt_of_lt_of_le h5 t.len, ho, h6⟩
    · refine .inr ⟨?_, Nat.le_trans s.len h1, h2, ho, ?_⟩
      · cases hb : β n with
        | none => rfl
        | some cb' => rw [s.sub n cb' hb] at hn; simp at hn
      · rcases h3 with h3 | ⟨k, b, ck, hk, hck, hco, hcb⟩
        · exact .inl (Nat.le_trans s.size h3)
        · rcases s.dom k ck hck with h4 | ⟨_, h4, h5, _, h6⟩
          · have hkl : k < σ.length := by
              rcases Nat.lt_or_ge k σ.length with h' | h'
              · exact h'
              · have := s.fresh k h' (look_lt hk); rw [h4] at this; simp at this
            obtain ⟨b0, hb0⟩ := s.alive hkl hk
            exact .inr ⟨k, b0, ck, hb0, h4, hco, hcb⟩
          · rcases h6 with h6 | ⟨k', b', ck', hk', hck', hco', hcb'⟩
            · exact .inl (hcb ▸ h6)
            · exact .inr ⟨k', b', ck', hk', hck', hco', hcb'.trans hcb⟩
  size := Nat.le_trans s.size t.size
  os := t.os.trans s.os
  tape := t.tape.trans s.tape
  output := t.output.trans s.output
  frame k hk h := by
    have h1 := s.frame k hk h
    rw [← h1]
    refine t.frame k (Nat.lt_of_lt_of_le hk s.size) fun n b cb hn hcb hco => ?_
    rcases s.dom n cb hcb with h4 | ⟨_, h4, h5, _, h6⟩
    · have hnl : n < σ.length := by
        rcases Nat.lt_or_ge n σ.length with h' | h'
        · exact h'
        · have := s.fresh n h' (look_lt hn); rw [h4] at this; simp at this
      obtain ⟨b0, hb0⟩ := s.alive hnl hn
      exact h n b0 cb hb0 h4 hco
    · rcases h6 with h6 | ⟨k', b', ck', hk', hck', hco', hcb'⟩
      · omega
      · rw [← hcb']
        exact h k' b' ck' hk' hck' hco'

theorem Step.below {base G : Nat} {β β' : Map} {σ σ' : Heap} {w w' : World} (hs : Sim base G β σ w) (s : Step β σ w β' σ' w') : Below base w w' :=
  ⟨s.os, s.tape, s.output, s.size, fun k hk => s.frame k (Nat.lt_of_lt_of_le hk hs.size) fun n b cb hn hcb hco => by
    have := hs.ge n cb b hcb hn hco
    omega⟩
end Go.Proofs.YtkgdkommahgakaaDoor.Abs
