/- Part GroupA of the proof: an abstract machine for the program's calls, and what functions do on it. It has no conditions. -/
import Derived.Below
import Derived.Orders
import Derived.Laws.Cells
import Derived.ChangeKeysEq
import Derived.Laws.StructEq
/- An abstract machine for calls that only read what came in and write what they made: values, heaps, and when a world is as a heap says. -/
namespace Go.Proofs.YtkgdkommahgakaaDoor.Abs
open Go Go.RowKit
set_option linter.unusedVariables false

/-- A block of the abstract heap: its cells; whether the call made it; how many cells an element has. -/
structure Blk where
  cells : List Value
  own : Bool
  sz : Nat
abbrev Heap := List (Option Blk)
def look (σ : Heap) (n : Nat) : Option Blk := (σ[n]?).getD none
/-- Where a block of the abstract heap lies in the world: the block, the offset, how many cells stand there. -/
structure CB where
  blk : Nat
  off : Nat
  room : Nat
  own : Bool
  sz : Nat
abbrev Map := Nat → Option CB

def scal : Value → Bool
  | .bool _ | .int _ _ | .float _ _ | .complex _ _ _ | .string _ | .pointer none | .slice none 0 0 | .map none | .chan none | .nilFunc | .nilIface => true
  | _ => false

/-- A value of which nothing is known. -/
def junk : Value := .tuple #[.tuple #[]]

mutual
/-- An abstract value (addresses are numbers of the abstract heap) and a value of the world. A slice's capacity: 'len' says 'just this', 'len + 1' says 'this or more'. 'junk' is every value. -/
inductive Rel (β : Map) : Value → Value → Prop
  | any (v : Value) : Rel β junk v
  | scal (v : Value) (h : scal v = true) : Rel β v v
  | ptr (n o : Nat) (cb : CB) (h : β n = some cb) : Rel β (.pointer (some ⟨n, o, none⟩)) (.pointer (some ⟨cb.blk, cb.off + o, none⟩))
  | slc0 (a : Addr) (c : Nat) (x : Option Addr) : Rel β (.slice (some a) 0 (c + 1)) (.slice x 0 0)
  | slc (n o len c c' : Nat) (cb : CB) (h : β n = some cb) (h1 : len ≤ c') (h2 : c = len → c' = len) (h3 : cb.own = true → o + c' * cb.sz ≤ cb.room) :
      Rel β (.slice (some ⟨n, o, none⟩) len c) (.slice (some ⟨cb.blk, cb.off + o, none⟩) len c')
  | agg (a b : Array Value) (h : RelL β a.toList b.toList) : Rel β (.agg a) (.agg b)
  | tuple (a b : Array Value) (h : RelL β a.toList b.toList) : Rel β (.tuple a) (.tuple b)
  | func (f : Fn) (a b a' b' : Array Value) (h : RelL β a.toList b.toList) (h' : RelL β a'.toList b'.toList) : Rel β (.func f a a') (.func f b b')
  | iface (t : TypeId) (a b : Value) (h : Rel β a b) : Rel β (.iface t a) (.iface t b)
inductive RelL (β : Map) : List Value → List Value → Prop
  | nil : RelL β [] []
  | cons (a b : Value) (as bs : List Value) (h : Rel β a b) (hs : RelL β as bs) : RelL β (a :: as) (b :: bs)
end

section
variable {β β' : Map}
theorem Rel.mono (hb : ∀ n cb, β n = some cb → β' n = some cb) {v v' : Value} (h : Rel β v v') : Rel β' v v' := by
  refine Rel.rec (motive_1 := fun a b _ => Rel β' a b) (motive_2 := fun a b _ => RelL β' a b) ?_ ?_ ?_ ?_ ?_ ?_ ?_ ?_ ?_ ?_ ?_ h
  · exact fun v => .any v
  · exact fun v h => .scal v h
  · exact fun n o cb h => .ptr n o cb (hb _ _ h)
  · exact fun a c x => .slc0 a c x
  · exact fun n o len c c' cb h h1 h2 h3 => .slc n o len c c' cb (hb _ _ h) h1 h2 h3
  · exact fun a b _ h => .agg a b h
  · exact fun a b _ h => .tuple a b h
  · exact fun f a b a' b' _ _ h h' => .func f a b a' b' h h'
  · exact fun t a b _ h => .iface t a b h
  · exact .nil
  · exact fun a b as bs _ _ h hs => .cons a b as bs h hs
theorem RelL.mono (hb : ∀ n cb, β n = some cb → β' n = some cb) : ∀ {v v' : List Value}, RelL β v v' → RelL β' v v'
  | _, _, .nil => .nil
  | _, _, .cons a b as bs h hs => .cons a b as bs (h.mono hb) (hs.mono hb)

theorem RelL.length : ∀ {a b : List Value}, RelL β a b → a.length = b.length
  | _, _, .nil => rfl
  | _, _, .cons _ _ _ _ _ hs => by simp [hs.length]
theorem RelL.get : ∀ {a b : List Value}, RelL β a b → ∀ (i : Nat) (v : Value), a[i]? = some v → ∃ v', b[i]? = some v' ∧ Rel β v v'
  | _, _, .nil, i, v, h => by simp at h
  | _, _, .cons a b as bs h hs, 0, v, hv => by
    simp only [List.getElem?_cons_zero, Option.some.injEq] at hv
    subst hv
    exact ⟨b, rfl, h⟩
  | _, _, .cons a b as bs h hs, i + 1, v, hv => by
    simp only [List.getElem?_cons_succ] at hv ⊢
    exact hs.get i v hv
theorem RelL.of_get : ∀ {a b : List Value}, a.length = b.length → (∀ (i : Nat) (v v' : Value), a[i]? = some v → b[i]? = some v' → Rel β v v') → RelL β a b
  | [], [], _, _ => .nil
  | a :: as, b :: bs, hl, h => .cons a b as bs (h 0 a b rfl rfl) (RelL.of_get (by simpa using hl) fun i v v' h1 h2 => h (i + 1) v v' (by simpa using h1) (by simpa using h2))
  | [], b :: bs, hl, _ => by simp at hl
  | a :: as, [], hl, _ => by simp at hl
theorem RelL.append : ∀ {a b c d : List Value}, RelL β a b → RelL β c d → RelL β (a ++ c) (b ++ d)
  | _, _, _, _, .nil, h2 => h2
  | _, _, _, _, .cons a b as bs h hs, h2 => .cons a b _ _ h (hs.append h2)
theorem RelL.take : ∀ {a b : List Value} (n : Nat), RelL β a b → RelL β (a.take n) (b.take n)
  | _, _, 0, _ => by simp only [List.take_zero]; exact .nil
  | _, _, _ + 1, .nil => by simp only [List.take_nil]; exact .nil
  | _, _, n + 1, .cons a b as bs h hs => by simp only [List.take_succ_cons]; exact .cons _ _ _ _ h (hs.take n)
theorem RelL.drop : ∀ {a b : List Value} (n : Nat), RelL β a b → RelL β (a.drop n) (b.drop n)
  | _, _, 0, h => h
  | _, _, _ + 1, .nil => by simp only [List.drop_nil]; exact .nil
  | _, _, n + 1, .cons a b as bs h hs => by simp only [List.drop_succ_cons]; exact hs.drop n
theorem RelL.scal : ∀ {a : List Value}, (∀ v ∈ a, Abs.scal v = true) → RelL β a a
  | [], _ => .nil
  | a :: as, h => .cons a a as as (.scal a (h a (by simp))) (RelL.scal fun v hv => h v (by simp [hv]))
theorem RelL.single {a b : Value} (h : Rel β a b) : RelL β [a] [b] := .cons a b [] [] h .nil
theorem RelL.set : ∀ {a b : List Value} (n : Nat) {v v' : Value}, RelL β a b → Rel β v v' → RelL β (a.set n v) (b.set n v')
  | _, _, _, _, _, .nil, _ => by simp only [List.set_nil]; exact .nil
  | _, _, 0, _, _, .cons a b as bs h hs, hv => by simp only [List.set_cons_zero]; exact .cons _ _ _ _ hv hs
  | _, _, n + 1, _, _, .cons a b as bs h hs, hv => by simp only [List.set_cons_succ]; exact .cons _ _ _ _ h (hs.set n hv)
theorem RelL.get' {a b : List Value} (h : RelL β a b) {i : Nat} {v' : Value} (hv : b[i]? = some v') : ∃ v, a[i]? = some v ∧ Rel β v v' := by
  have hi := (List.getElem?_eq_some_iff.1 hv).1
  have hi' : i < a.length := by rw [h.length]; exact hi
  obtain ⟨w, hw, hr⟩ := h.get i a[i] (List.getElem?_eq_getElem hi')
  rw [hv] at hw
  exact ⟨a[i], List.getElem?_eq_getElem hi', (Option.some.inj hw) ▸ hr⟩
theorem rel_undef (β : Map) : Rel β undef undef := .tuple #[] #[] .nil
theorem RelL.getD {a b : List Value} (h : RelL β a b) (i : Nat) : Rel β (a.getD i undef) (b.getD i undef) := by
  rw [List.getD_eq_getElem?_getD, List.getD_eq_getElem?_getD]
  cases ha : a[i]? with
  | none =>
    have hb : b[i]? = none := by
      rw [List.getElem?_eq_none_iff] at ha ⊢
      rw [← h.length]
      exact ha
    rw [hb]
    exact rel_undef β
  | some v =>
    obtain ⟨v', hv, hr⟩ := h.get i v ha
    rw [hv]
    exact hr

/-! ### what a value's shape tells of its partner -/
theorem Rel.int_inv {k : IntKind} {n : Int} {v : Value} (h : Rel β (.int k n) v) : v = .int k n := by
  cases h <;> first | rfl | simp_all [junk, Abs.scal]
theorem Rel.bool_inv {b : Bool} {v : Value} (h : Rel β (.bool b) v) : v = .bool b := by
  cases h <;> first | rfl | simp_all [junk, Abs.scal]
theorem Rel.string_inv {b : ByteArray} {v : Value} (h : Rel β (.string b) v) : v = .string b := by
  cases h <;> first | rfl | simp_all [junk, Abs.scal]
theorem Rel.pnil_inv {v : Value} (h : Rel β (.pointer none) v) : v = .pointer none := by
  cases h <;> first | rfl | simp_all [junk, Abs.scal]
theorem Rel.nilFunc_inv {v : Value} (h : Rel β .nilFunc v) : v = .nilFunc := by
  cases h <;> first | rfl | simp_all [junk, Abs.scal]
theorem Rel.nilIface_inv {v : Value} (h : Rel β .nilIface v) : v = .nilIface := by
  cases h <;> first | rfl | simp_all [junk, Abs.scal]
theorem Rel.ptr_inv {a : Addr} {v : Value} (h : Rel β (.pointer (some a)) v) : ∃ cb, β a.block = some cb ∧ a.spot = none ∧ v = .pointer (some ⟨cb.blk, cb.off + a.off, none⟩) := by
  cases h with
  | scal _ h => simp [Abs.scal] at h
  | ptr n o cb h => exact ⟨cb, h, rfl, rfl⟩
theorem Rel.agg_inv {a : Array Value} {v : Value} (h : Rel β (.agg a) v) : ∃ b, v = .agg b ∧ RelL β a.toList b.toList := by
  cases h with
  | scal _ h => simp [Abs.scal] at h
  | agg _ b h => exact ⟨b, rfl, h⟩
theorem Rel.tuple_inv {a : Array Value} {v : Value} (hne : a ≠ #[.tuple #[]]) (h : Rel β (.tuple a) v) : ∃ b, v = .tuple b ∧ RelL β a.toList b.toList := by
  cases h with
  | any => exact absurd rfl hne
  | scal _ h => simp [Abs.scal] at h
  | tuple _ b h => exact ⟨b, rfl, h⟩
theorem Rel.undef_inv {v : Value} (h : Rel β undef v) : v = undef := by
  obtain ⟨b, rfl, hr⟩ := Rel.tuple_inv (a := #[]) (by simp) h
  have := hr.length
  have hb : b = #[] := by
    apply Array.eq_empty_of_size_eq_zero
    simpa using this.symm
  rw [hb]
  rfl
theorem Rel.func_inv {f : Fn} {a a' : Array Value} {v : Value} (h : Rel β (.func f a a') v) : ∃ b b', v = .func f b b' ∧ RelL β a.toList b.toList ∧ RelL β a'.toList b'.toList := by
  cases h with
  | scal _ h => simp [Abs.scal] at h
  | func _ _ b _ b' h h' => exact ⟨b, b', rfl, h, h'⟩
theorem Rel.iface_inv {t : TypeId} {a : Value} {v : Value} (h : Rel β (.iface t a) v) : ∃ b, v = .iface t b ∧ Rel β a b := by
  cases h with
  | scal _ h => simp [Abs.scal] at h
  | iface _ _ b h => exact ⟨b, rfl, h⟩
theorem Rel.slc_inv {x : Option Addr} {len c : Nat} {v : Value} (h : Rel β (.slice x len c) v) :
    (x = none ∧ len = 0 ∧ c = 0 ∧ v = .slice none 0 0) ∨ (∃ a, x = some a ∧ len = 0 ∧ ∃ y, v = .slice y 0 0) ∨
    ∃ n o c' cb, x = some ⟨n, o, none⟩ ∧ β n = some cb ∧ len ≤ c' ∧ (c = len → c' = len) ∧ (cb.own = true → o + c' * cb.sz ≤ cb.room) ∧ v = .slice (some ⟨cb.blk, cb.off + o, none⟩) len c' := by
  cases h with
  | scal _ h =>
    cases x with
    | some a => simp [Abs.scal] at h
    | none =>
      cases len with
      | succ => simp [Abs.scal] at h
      | zero =>
        cases c with
        | succ => simp [Abs.scal] at h
        | zero => exact .inl ⟨rfl, rfl, rfl, rfl⟩
  | slc0 a _ y => exact .inr (.inl ⟨a, rfl, rfl, y, rfl⟩)
  | slc n o _ _ c' cb h h1 h2 h3 => exact .inr (.inr ⟨n, o, c', cb, rfl, h, h1, h2, h3, rfl⟩)

/-- An empty slice of no capacity that is told so leads somewhere. -/
theorem Rel.slc0_inv {a : Addr} {v : Value} (h : Rel β (.slice (some a) 0 0) v) : ∃ b c', v = .slice (some b) 0 c' := by
  cases h with
  | scal _ h => simp [Abs.scal] at h
  | slc n o _ _ c' cb h h1 h2 h3 => exact ⟨_, _, rfl⟩

theorem Rel.cells {v v' : Value} (h : Rel β v v') (hu : v ≠ junk) : RelL β v.cells.toList v'.cells.toList := by
  cases h with
  | any => exact absurd rfl hu
  | agg a b h => exact h
  | scal v hs =>
    cases v with
    | agg => simp [Abs.scal] at hs
    | _ => exact .single (.scal _ hs)
  | ptr n o cb h => exact .single (.ptr n o cb h)
  | slc0 a c x => exact .single (.slc0 a c x)
  | slc n o len c c' cb h h1 h2 h3 => exact .single (.slc n o len c c' cb h h1 h2 h3)
  | tuple a b h => exact .single (.tuple a b h)
  | func f a b a' b' h h' => exact .single (.func f a b a' b' h h')
  | iface t a b h => exact .single (.iface t a b h)
end

/-! ### a world that is as an abstract heap says -/
structure Holds (β : Map) (cb : CB) (b : Blk) (w : World) : Prop where
  obj : ∃ c e frz, w.heap[cb.blk]? = some (.cells c e frz) ∧ cb.off + cb.room ≤ c.size ∧ (cb.own = true → frz.2 ≤ frz.1) ∧
    ∀ i v, b.cells[i]? = some v → ∃ v', c[cb.off + i]? = some v' ∧ Rel β v v'
  len : b.cells.length ≤ cb.room
  own : cb.own = b.own
  sz : cb.sz = b.sz
  one : ∀ v ∈ b.cells, v.oneCell' = true

structure Sim (base G : Nat) (β : Map) (σ : Heap) (w : World) : Prop where
  size : base ≤ w.heap.size
  holds : ∀ n cb b, β n = some cb → look σ n = some b → Holds β cb b w
  ge : ∀ n cb b, β n = some cb → look σ n = some b → cb.own = true → base ≤ cb.blk
  disj : ∀ n m cb cb' b b', n ≠ m → β n = some cb → β m = some cb' → look σ n = some b → look σ m = some b' → cb.own = true → cb.blk ≠ cb'.blk
  glob : ∀ g, g < G → ∃ cb, β g = some cb ∧ cb.blk = g ∧ cb.off = 0

/-- What a step of the call does: the heap grows, what is dead stays dead, new names are given, and what isn't the call's own stays as it was. -/
structure Step (β : Map) (σ : Heap) (w : World) (β' : Map) (σ' : Heap) (w' : World) : Prop where
  len : σ.length ≤ σ'.length
  dead : ∀ n, n < σ.length → look σ n = none → look σ' n = none
  fresh : ∀ n, σ.length ≤ n → n < σ'.length → β n = none
  sub : ∀ n cb, β n = some cb → β' n = some cb
  dom : ∀ n cb, β' n = some cb → β n = some cb ∨ (β n = none ∧ σ.length ≤ n ∧ n < σ'.length ∧ cb.own = true ∧
    (w.heap.size ≤ cb.blk ∨ ∃ k b ck, look σ k = some b ∧ β k = some ck ∧ ck.own = true ∧ ck.blk = cb.blk))
  size : w.heap.size ≤ w'.heap.size
  os : w'.os = w.os
  tape : w'.tape = w.tape
  output : w'.output = w.output
  frame : ∀ k, k < w.heap.size → (∀ n b cb, look σ n = some b → β n = some cb → cb.own = true → cb.blk ≠ k) → w'.heap[k]? = w.heap[k]?

theorem look_lt {σ : Heap} {n : Nat} {b : Blk} (h : look σ n = some b) : n < σ.length := by
  unfold look at h
  rcases Nat.lt_or_ge n σ.length with h' | h'
  · exact h'
  · rw [List.getElem?_eq_none h'] at h; simp at h

theorem Step.alive {β β' : Map} {σ σ' : Heap} {w w' : World} (s : Step β σ w β' σ' w') {n : Nat} {b : Blk} (hn : n < σ.length) (h : look σ' n = some b) : ∃ b0, look σ n = some b0 := by
  cases h0 : look σ n with
  | none => rw [s.dead n hn h0] at h; simp at h
  | some b0 => exact ⟨b0, rfl⟩

theorem Step.refl (β : Map) (σ : Heap) (w : World) : Step β σ w β σ w :=
  ⟨Nat.le_refl _, fun _ _ h => h, fun n h1 h2 => by omega, fun _ _ h => h, fun _ _ h => .inl h, Nat.le_refl _, rfl, rfl, rfl, fun _ _ _ => rfl⟩

theorem Step.trans {β β1 β2 : Map} {σ σ1 σ2 : Heap} {w w1 w2 : World} (s : Step β σ w β1 σ1 w1) (t : Step β1 σ1 w1 β2 σ2 w2) : Step β σ w β2 σ2 w2 where
  len := Nat.le_trans s.len t.len
  dead n hn h := t.dead n (Nat.lt_of_lt_of_le hn s.len) (s.dead n hn h)
  fresh n h1 h2 := by
    rcases Nat.lt_or_ge n σ1.length with h | h
    · exact s.fresh n h1 h
    · cases hb : β n with
      | none => rfl
      | some cb =>
        have := t.fresh n h h2
        rw [s.sub n cb hb] at this
        simp at this
  sub n cb h := t.sub n cb (s.sub n cb h)
  dom n cb h := by
    rcases t.dom n cb h with h1 | ⟨hn, h1, h2, ho, h3⟩
    · rcases s.dom n cb h1 with h4 | ⟨hn, h4, h5, ho, h6⟩
      · exact .inl h4
      · exact .inr ⟨hn, h4, Nat.lt_of_lt_of_le h5 t.len, ho, h6⟩
    · refine .inr ⟨?_, Nat.le_trans s.len h1, h2, ho, ?_⟩
      · cases hb : β n with
        | none => rfl
        | some cb' => rw [s.sub n cb' hb] at hn; simp at hn
      · rcases h3 with h3 | ⟨k, b, ck, hk, hck, hco, hcb⟩
        · exact .inl (Nat.le_trans s.size h3)
        · rcases s.dom k ck hck with h4 | ⟨_, h4, h5, _, h6⟩
          · have hkl : k < σ.length := by
              rcases Nat.lt_or_ge k σ.length with h' | h'
              · exact h'
              · have := s.fresh k h' (look_lt hk); rw [h4] at this; simp at this
            obtain ⟨b0, hb0⟩ := s.alive hkl hk
            exact .inr ⟨k, b0, ck, hb0, h4, hco, hcb⟩
          · rcases h6 with h6 | ⟨k', b', ck', hk', hck', hco', hcb'⟩
            · exact .inl (hcb ▸ h6)
            · exact .inr ⟨k', b', ck', hk', hck', hco', hcb'.trans hcb⟩
  size := Nat.le_trans s.size t.size
  os := t.os.trans s.os
  tape := t.tape.trans s.tape
  output := t.output.trans s.output
  frame k hk h := by
    have h1 := s.frame k hk h
    rw [← h1]
    refine t.frame k (Nat.lt_of_lt_of_le hk s.size) fun n b cb hn hcb hco => ?_
    rcases s.dom n cb hcb with h4 | ⟨_, h4, h5, _, h6⟩
    · have hnl : n < σ.length := by
        rcases Nat.lt_or_ge n σ.length with h' | h'
        · exact h'
        · have := s.fresh n h' (look_lt hn); rw [h4] at this; simp at this
      obtain ⟨b0, hb0⟩ := s.alive hnl hn
      exact h n b0 cb hb0 h4 hco
    · rcases h6 with h6 | ⟨k', b', ck', hk', hck', hco', hcb'⟩
      · omega
      · rw [← hcb']
        exact h k' b' ck' hk' hck' hco'

theorem Step.below {base G : Nat} {β β' : Map} {σ σ' : Heap} {w w' : World} (hs : Sim base G β σ w) (s : Step β σ w β' σ' w') : Below base w w' :=
  ⟨s.os, s.tape, s.output, s.size, fun k hk => s.frame k (Nat.lt_of_lt_of_le hk hs.size) fun n b cb hn hcb hco => by
    have := hs.ge n cb b hcb hn hco
    omega⟩
end Go.Proofs.YtkgdkommahgakaaDoor.Abs

/- The abstract machine: what a new block, a store and an append do to a world that is as an abstract heap says. -/
namespace Go.Proofs.YtkgdkommahgakaaDoor.Abs
open Go Go.RowKit
set_option linter.unusedVariables false

def Map.upd (β : Map) (n : Nat) (cb : CB) : Map := fun m => if m = n then some cb else β m
theorem Map.upd_same (β : Map) (n : Nat) (cb : CB) : β.upd n cb n = some cb := by simp [Map.upd]
theorem Map.upd_ne (β : Map) {n m : Nat} (cb : CB) (h : m ≠ n) : β.upd n cb m = β m := by simp [Map.upd, h]
theorem Map.upd_sub {β : Map} {n : Nat} {cb : CB} (h : β n = none) : ∀ m c, β m = some c → β.upd n cb m = some c := fun m c hm => by
  by_cases hmn : m = n
  · subst hmn; rw [h] at hm; simp at hm
  · rw [Map.upd_ne β cb hmn]; exact hm

theorem look_append_lt {σ : Heap} {o : Option Blk} {n : Nat} (h : n < σ.length) : look (σ ++ [o]) n = look σ n := by
  unfold look
  rw [List.getElem?_append_left h]
theorem look_append_eq {σ : Heap} {o : Option Blk} : look (σ ++ [o]) σ.length = o := by
  unfold look
  rw [List.getElem?_append_right (Nat.le_refl _)]
  simp
theorem look_append_some {σ : Heap} {o : Option Blk} {n : Nat} {b : Blk} (h : look (σ ++ [o]) n = some b) : (n < σ.length ∧ look σ n = some b) ∨ (n = σ.length ∧ o = some b) := by
  rcases Nat.lt_or_ge n σ.length with h' | h'
  · rw [look_append_lt h'] at h; exact .inl ⟨h', h⟩
  · have := look_lt h
    have e : n = σ.length := by simp at this; omega
    subst e
    rw [look_append_eq] at h
    exact .inr ⟨rfl, h⟩
theorem look_set_ne {σ : Heap} {o : Option Blk} {n m : Nat} (h : m ≠ n) : look (σ.set n o) m = look σ m := by
  unfold look
  rw [List.getElem?_set_ne (Ne.symm h)]
theorem look_set_eq {σ : Heap} {o : Option Blk} {n : Nat} (h : n < σ.length) : look (σ.set n o) n = o := by
  unfold look
  rw [List.getElem?_set_self h]
  rfl

section
variable {base G : Nat} {β : Map} {σ : Heap} {w : World}

/-- A new block of the call's own. -/
theorem sim_new (hs : Sim base G β σ w) (hf : β σ.length = none) {cells : List Value} {sz : Nat} {c : Array Value} {e : TypeId} {w' : World}
    (hw : w'.heap = w.heap.push (.cells c e)) (ho : w'.os = w.os) (ht : w'.tape = w.tape) (hp : w'.output = w.output)
    (hl : cells.length ≤ c.size) (hone : ∀ v ∈ cells, v.oneCell' = true) (hr : ∀ (i : Nat) (v : Value), cells[i]? = some v → ∃ v', c[i]? = some v' ∧ Rel β v v') :
    Sim base G (β.upd σ.length ⟨w.heap.size, 0, c.size, true, sz⟩) (σ ++ [some ⟨cells, true, sz⟩]) w' ∧
      Step β σ w (β.upd σ.length ⟨w.heap.size, 0, c.size, true, sz⟩) (σ ++ [some ⟨cells, true, sz⟩]) w' := by
  have hsub := Map.upd_sub (cb := ⟨w.heap.size, 0, c.size, true, sz⟩) hf
  have hsz : w'.heap.size = w.heap.size + 1 := by rw [hw]; simp
  have hold : ∀ k, k < w.heap.size → w'.heap[k]? = w.heap[k]? := fun k hk => by
    rw [hw, Array.getElem?_push, if_neg (by omega)]
  have hlt : ∀ n cb b, β n = some cb → look σ n = some b → cb.blk < w.heap.size := fun n cb b h1 h2 => by
    obtain ⟨c', e', frz, hc, _⟩ := (hs.holds n cb b h1 h2).obj
    exact (Array.getElem?_eq_some_iff.1 hc).1
  refine ⟨⟨by have := hs.size; omega, ?_, ?_, ?_, ?_⟩, ⟨by simp, ?_, ?_, hsub, ?_, by omega, ho, ht, hp, fun k hk _ => hold k hk⟩⟩
  · intro n cb b h1 h2
    rcases look_append_some h2 with ⟨hn, h2⟩ | ⟨rfl, h2'⟩
    · rw [Map.upd_ne _ _ (by omega)] at h1
      have h := hs.holds n cb b h1 h2
      obtain ⟨c', e', frz, hc, h3, h4, h5⟩ := h.obj
      refine ⟨⟨c', e', frz, by rw [hold _ (hlt n cb b h1 h2)]; exact hc, h3, h4, fun i v hv => ?_⟩, h.len, h.own, h.sz, h.one⟩
      obtain ⟨v', hv', hr'⟩ := h5 i v hv
      exact ⟨v', hv', hr'.mono hsub⟩
    · rw [Map.upd_same] at h1
      obtain rfl := Option.some.inj h1
      obtain rfl := Option.some.inj h2'
      refine ⟨⟨c, e, (0, 0), by rw [hw, Array.getElem?_push, if_pos rfl], by simp, fun _ => Nat.le_refl _, fun i v hv => ?_⟩, hl, rfl, rfl, hone⟩
      obtain ⟨v', hv', hr'⟩ := hr i v hv
      exact ⟨v', by simpa using hv', hr'.mono hsub⟩
  · intro n cb b h1 h2 h3
    rcases look_append_some h2 with ⟨hn, h2⟩ | ⟨rfl, h2⟩
    · rw [Map.upd_ne _ _ (by omega)] at h1
      exact hs.ge n cb b h1 h2 h3
    · rw [Map.upd_same] at h1
      obtain rfl := Option.some.inj h1
      exact hs.size
  · intro n m cb cb' b b' hnm h1 h2 h3 h4 h5
    rcases look_append_some h3 with ⟨hn, h3⟩ | ⟨rfl, h3⟩
    · rw [Map.upd_ne _ _ (by omega)] at h1
      rcases look_append_some h4 with ⟨hm, h4⟩ | ⟨rfl, h4⟩
      · rw [Map.upd_ne _ _ (by omega)] at h2
        exact hs.disj n m cb cb' b b' hnm h1 h2 h3 h4 h5
      · rw [Map.upd_same] at h2
        obtain rfl := Option.some.inj h2
        have := hlt n cb b h1 h3
        show cb.blk ≠ w.heap.size
        omega
    · rw [Map.upd_same] at h1
      obtain rfl := Option.some.inj h1
      rcases look_append_some h4 with ⟨hm, h4⟩ | ⟨rfl, h4⟩
      · rw [Map.upd_ne _ _ (by omega)] at h2
        have := hlt m cb' b' h2 h4
        show w.heap.size ≠ cb'.blk
        omega
      · exact absurd rfl hnm
  · intro g hg
    obtain ⟨cb, h2, h3⟩ := hs.glob g hg
    exact ⟨cb, hsub _ _ h2, h3⟩
  · intro n hn h
    rw [look_append_lt hn]
    exact h
  · intro n h1 h2
    have : n = σ.length := by simp at h2; omega
    rw [this]
    exact hf
  · intro n cb h
    by_cases hn : n = σ.length
    · subst hn
      rw [Map.upd_same] at h
      obtain rfl := Option.some.inj h
      exact .inr ⟨hf, Nat.le_refl _, by simp, rfl, .inl (Nat.le_refl _)⟩
    · rw [Map.upd_ne _ _ hn] at h
      exact .inl h

/-- A store into a block of the call's own: the block's cells are others. -/
theorem sim_store (hs : Sim base G β σ w) {n : Nat} {b : Blk} {cb : CB} (hb : look σ n = some b) (hc : β n = some cb) (ho : b.own = true) {cells : List Value} (hlen : cells.length = b.cells.length) (hone : ∀ v ∈ cells, v.oneCell' = true)
    {c c' : Array Value} {e : TypeId} {frz : Nat × Nat} {w' : World} (hold : w.heap[cb.blk]? = some (.cells c e frz)) (hnew : w'.heap[cb.blk]? = some (.cells c' e frz)) (hsz : c'.size = c.size)
    (hothers : ∀ k, k ≠ cb.blk → w'.heap[k]? = w.heap[k]?) (hsize : w'.heap.size = w.heap.size) (hos : w'.os = w.os) (ht : w'.tape = w.tape) (hp : w'.output = w.output)
    (hr : ∀ i v, cells[i]? = some v → ∃ v', c'[cb.off + i]? = some v' ∧ Rel β v v') :
    Sim base G β (σ.set n (some { b with cells := cells })) w' ∧ Step β σ w β (σ.set n (some { b with cells := cells })) w' := by
  have hn := look_lt hb
  have hh := hs.holds n cb b hc hb
  have hco : cb.own = true := hh.own.trans ho
  refine ⟨⟨by have := hs.size; omega, ?_, ?_, ?_, ?_⟩, ⟨by simp, ?_, fun m h1 h2 => by simp at h2; omega, fun _ _ h => h, fun _ _ h => .inl h, by omega, hos, ht, hp, ?_⟩⟩
  · intro m cb' b' h1 h2
    by_cases hmn : m = n
    · subst hmn
      rw [look_set_eq hn] at h2
      obtain rfl := Option.some.inj h2
      rw [hc] at h1
      obtain rfl := Option.some.inj h1
      obtain ⟨c0, e0, frz0, h3, h4, h5, _⟩ := hh.obj
      rw [hold] at h3
      simp only [Option.some.injEq, Obj.cells.injEq] at h3
      obtain ⟨rfl, rfl, rfl⟩ := h3
      exact ⟨⟨c', _, _, hnew, by rw [hsz]; exact h4, h5, hr⟩, by show cells.length ≤ _; rw [hlen]; exact hh.len, hh.own, hh.sz, hone⟩
    · rw [look_set_ne hmn] at h2
      have h := hs.holds m cb' b' h1 h2
      obtain ⟨c0, e0, frz0, h3, h4⟩ := h.obj
      exact ⟨⟨c0, e0, frz0, by rw [hothers _ (Ne.symm (hs.disj n m cb cb' b b' (Ne.symm hmn) hc h1 hb h2 hco))]; exact h3, h4⟩, h.len, h.own, h.sz, h.one⟩
  · intro m cb' b' h1 h2 h3
    by_cases hmn : m = n
    · subst hmn
      exact hs.ge m cb' b h1 hb h3
    · rw [look_set_ne hmn] at h2
      exact hs.ge m cb' b' h1 h2 h3
  · intro m k cb1 cb2 b1 b2 hmk h1 h2 h3 h4 h5
    have look' : ∀ j x, look (σ.set n (some { b with cells := cells })) j = some x → ∃ y, look σ j = some y := fun j x hj => by
      by_cases hjn : j = n
      · exact ⟨b, by rw [hjn]; exact hb⟩
      · rw [look_set_ne hjn] at hj; exact ⟨x, hj⟩
    obtain ⟨y1, hy1⟩ := look' m b1 h3
    obtain ⟨y2, hy2⟩ := look' k b2 h4
    exact hs.disj m k cb1 cb2 y1 y2 hmk h1 h2 hy1 hy2 h5
  · exact hs.glob
  · intro m hm h
    by_cases hmn : m = n
    · subst hmn; rw [hb] at h; simp at h
    · rw [look_set_ne hmn]; exact h
  · intro k hk h
    exact hothers k (fun he => h n b cb hb hc hco he.symm)

/-- An append in place: the elder name is dead, a new one has the cells. -/
theorem sim_again (hs : Sim base G β σ w) (hf : β σ.length = none) {n : Nat} {b : Blk} {cb : CB} (hb : look σ n = some b) (hc : β n = some cb) (ho : b.own = true) {cells : List Value} {d sz : Nat}
    {c c' : Array Value} {e : TypeId} {frz : Nat × Nat} {w' : World} (hold : w.heap[cb.blk]? = some (.cells c e frz)) (hnew : w'.heap[cb.blk]? = some (.cells c' e frz)) (hsz : c'.size = c.size)
    (hothers : ∀ k, k ≠ cb.blk → w'.heap[k]? = w.heap[k]?) (hsize : w'.heap.size = w.heap.size) (hos : w'.os = w.os) (ht : w'.tape = w.tape) (hp : w'.output = w.output)
    (hd : d ≤ cb.room) (hone : ∀ v ∈ cells, v.oneCell' = true) (hlen : cells.length ≤ cb.room - d) (hr : ∀ i v, cells[i]? = some v → ∃ v', c'[cb.off + d + i]? = some v' ∧ Rel β v v') :
    Sim base G (β.upd σ.length ⟨cb.blk, cb.off + d, cb.room - d, true, sz⟩) ((σ.set n none) ++ [some ⟨cells, true, sz⟩]) w' ∧
      Step β σ w (β.upd σ.length ⟨cb.blk, cb.off + d, cb.room - d, true, sz⟩) ((σ.set n none) ++ [some ⟨cells, true, sz⟩]) w' := by
  have hn := look_lt hb
  have hh := hs.holds n cb b hc hb
  have hco : cb.own = true := hh.own.trans ho
  have hl : (σ.set n none).length = σ.length := by simp
  have hsub := Map.upd_sub (cb := ⟨cb.blk, cb.off + d, cb.room - d, true, sz⟩) hf
  have look1 : ∀ m x, look ((σ.set n none) ++ [some ⟨cells, true, sz⟩]) m = some x → (m < σ.length ∧ m ≠ n ∧ look σ m = some x) ∨ (m = σ.length ∧ x = ⟨cells, true, sz⟩) := by
    intro m x h
    rcases look_append_some h with ⟨h1, h2⟩ | ⟨h1, h2⟩
    · by_cases hmn : m = n
      · subst hmn; rw [look_set_eq hn] at h2; simp at h2
      · rw [look_set_ne hmn] at h2; exact .inl ⟨by omega, hmn, h2⟩
    · exact .inr ⟨by omega, (Option.some.inj h2).symm⟩
  refine ⟨⟨by have := hs.size; omega, ?_, ?_, ?_, ?_⟩, ⟨by simp, ?_, ?_, hsub, ?_, by omega, hos, ht, hp, ?_⟩⟩
  · intro m cb' b' h1 h2
    rcases look1 m b' h2 with ⟨hm, hmn, h2⟩ | ⟨rfl, rfl⟩
    · rw [Map.upd_ne _ _ (by omega)] at h1
      have h := hs.holds m cb' b' h1 h2
      obtain ⟨c0, e0, frz0, h3, h4, h5, h6⟩ := h.obj
      refine ⟨⟨c0, e0, frz0, by rw [hothers _ (Ne.symm (hs.disj n m cb cb' b b' (Ne.symm hmn) hc h1 hb h2 hco))]; exact h3, h4, h5, fun i v hv => ?_⟩, h.len, h.own, h.sz, h.one⟩
      obtain ⟨v', hv', hr'⟩ := h6 i v hv
      exact ⟨v', hv', hr'.mono hsub⟩
    · rw [Map.upd_same] at h1
      obtain rfl := Option.some.inj h1
      obtain ⟨c0, e0, frz0, h3, h4, h5, _⟩ := hh.obj
      rw [hold] at h3
      simp only [Option.some.injEq, Obj.cells.injEq] at h3
      obtain ⟨rfl, rfl, rfl⟩ := h3
      refine ⟨⟨c', _, _, hnew, by show cb.off + d + (cb.room - d) ≤ c'.size; omega, fun _ => h5 hco, fun i v hv => ?_⟩, hlen, rfl, rfl, hone⟩
      obtain ⟨v', hv', hr'⟩ := hr i v hv
      exact ⟨v', hv', hr'.mono hsub⟩
  · intro m cb' b' h1 h2 h3
    rcases look1 m b' h2 with ⟨hm, hmn, h2⟩ | ⟨rfl, rfl⟩
    · rw [Map.upd_ne _ _ (by omega)] at h1
      exact hs.ge m cb' b' h1 h2 h3
    · rw [Map.upd_same] at h1
      obtain rfl := Option.some.inj h1
      exact hs.ge n cb b hc hb hco
  · intro m k cb1 cb2 b1 b2 hmk h1 h2 h3 h4 h5
    rcases look1 m b1 h3 with ⟨hm, hmn, h3⟩ | ⟨rfl, rfl⟩
    · rw [Map.upd_ne _ _ (by omega)] at h1
      rcases look1 k b2 h4 with ⟨hk, hkn, h4⟩ | ⟨rfl, rfl⟩
      · rw [Map.upd_ne _ _ (by omega)] at h2
        exact hs.disj m k cb1 cb2 b1 b2 hmk h1 h2 h3 h4 h5
      · rw [Map.upd_same] at h2
        obtain rfl := Option.some.inj h2
        exact hs.disj m n cb1 cb b1 b hmn h1 hc h3 hb h5
    · rw [Map.upd_same] at h1
      obtain rfl := Option.some.inj h1
      rcases look1 k b2 h4 with ⟨hk, hkn, h4⟩ | ⟨rfl, rfl⟩
      · rw [Map.upd_ne _ _ (by omega)] at h2
        exact hs.disj n k cb cb2 b b2 (Ne.symm hkn) hc h2 hb h4 hco
      · exact absurd rfl hmk
  · intro g hg
    obtain ⟨cb', h3, h4⟩ := hs.glob g hg
    exact ⟨cb', hsub _ _ h3, h4⟩
  · intro m hm h
    rw [look_append_lt (by omega)]
    by_cases hmn : m = n
    · subst hmn; rw [look_set_eq hn]
    · rw [look_set_ne hmn]; exact h
  · intro m h1 h2
    have : m = σ.length := by simp at h2; omega
    rw [this]
    exact hf
  · intro m cb' h
    by_cases hm : m = σ.length
    · subst hm
      rw [Map.upd_same] at h
      obtain rfl := Option.some.inj h
      exact .inr ⟨hf, Nat.le_refl _, by simp, rfl, .inr ⟨n, b, cb, hb, hc, hco, rfl⟩⟩
    · rw [Map.upd_ne _ _ hm] at h
      exact .inl h
  · intro k hk h
    exact hothers k (fun he => h n b cb hb hc hco he.symm)

/-- An append that makes a new block: the elder name is dead. -/
theorem sim_moved (hs : Sim base G β σ w) (hf : β σ.length = none) {n : Nat} {b : Blk} (hb : look σ n = some b) {cells : List Value} {sz : Nat} {c : Array Value} {e : TypeId} {w' : World}
    (hw : w'.heap = w.heap.push (.cells c e)) (ho : w'.os = w.os) (ht : w'.tape = w.tape) (hp : w'.output = w.output)
    (hl : cells.length ≤ c.size) (hone : ∀ v ∈ cells, v.oneCell' = true) (hr : ∀ (i : Nat) (v : Value), cells[i]? = some v → ∃ v', c[i]? = some v' ∧ Rel β v v') :
    Sim base G (β.upd σ.length ⟨w.heap.size, 0, c.size, true, sz⟩) ((σ.set n none) ++ [some ⟨cells, true, sz⟩]) w' ∧
      Step β σ w (β.upd σ.length ⟨w.heap.size, 0, c.size, true, sz⟩) ((σ.set n none) ++ [some ⟨cells, true, sz⟩]) w' := by
  have hn := look_lt hb
  have hs0 : Sim base G β (σ.set n none) w := by
    have lk : ∀ m x, look (σ.set n none) m = some x → look σ m = some x := fun m x h => by
      by_cases hmn : m = n
      · subst hmn; rw [look_set_eq hn] at h; simp at h
      · rw [look_set_ne hmn] at h; exact h
    exact ⟨hs.size, fun m cb x h1 h2 => hs.holds m cb x h1 (lk m x h2), fun m cb x h1 h2 => hs.ge m cb x h1 (lk m x h2), fun m k cb1 cb2 x1 x2 h0 h1 h2 h3 h4 => hs.disj m k cb1 cb2 x1 x2 h0 h1 h2 (lk m x1 h3) (lk k x2 h4),
      hs.glob⟩
  have hl0 : (σ.set n none).length = σ.length := by simp
  obtain ⟨h1, h2⟩ := sim_new (sz := sz) hs0 (by rw [hl0]; exact hf) hw ho ht hp hl hone hr
  rw [hl0] at h1 h2
  refine ⟨h1, ⟨by simp, ?_, ?_, h2.sub, ?_, h2.size, h2.os, h2.tape, h2.output, ?_⟩⟩
  · intro m hm h
    rw [look_append_lt (by omega)]
    by_cases hmn : m = n
    · subst hmn; rw [look_set_eq hn]
    · rw [look_set_ne hmn]; exact h
  · intro m h3 h4
    exact h2.fresh m (by rw [hl0]; exact h3) h4
  · intro m cb h
    rcases h2.dom m cb h with h3 | ⟨h3, h4, h5, h6, h7⟩
    · exact .inl h3
    · refine .inr ⟨h3, by rw [hl0] at h4; exact h4, h5, h6, ?_⟩
      rcases h7 with h7 | ⟨k, x, ck, hk, h8⟩
      · exact .inl h7
      · refine .inr ⟨k, x, ck, ?_, h8⟩
        by_cases hkn : k = n
        · subst hkn; rw [look_set_eq hn] at hk; simp at hk
        · rw [look_set_ne hkn] at hk; exact hk
  · intro k hk h
    refine h2.frame k hk fun m x cb hm => h m x cb ?_
    by_cases hmn : m = n
    · subst hmn; rw [look_set_eq hn] at hm; simp at hm
    · rw [look_set_ne hmn] at hm; exact hm
end
end Go.Proofs.YtkgdkommahgakaaDoor.Abs

/- The abstract machine: its operations. -/
namespace Go.Proofs.YtkgdkommahgakaaDoor.Abs
open Go Go.RowKit
set_option linter.unusedVariables false

/-- An operand's value. -/
def aev (P : Program) (T : Nat → Value) : Operand → Value
  | .tmp t => T t
  | .const v => if scal v then v else junk
  | .global g => if g < P.globals.size then .pointer (some ⟨g, 0, none⟩) else junk
  | .func f => .func (.func f) #[] #[]

section
variable (P : Program)
def aggT (t : TypeId) : Option Bool := (P.underlying t).map fun | .struct _ => true | .array _ _ => true | _ => false
def tzero (t : TypeId) : Option Value := (P.info? t).bind (·.zero)
def newPtr (σ : Heap) : Value := .pointer (some ⟨σ.length, 0, none⟩)
def setAll : List Value → Nat → List Value → List Value
  | cs, _, [] => cs
  | cs, o, v :: vs => setAll (cs.set o v) (o + 1) vs

def aload (σ : Heap) (t : TypeId) : Value → Option Value
  | .pointer (some ⟨n, o, none⟩) => (look σ n).bind fun b => (aggT P t).bind fun g =>
      if g = true then (if o + P.cellsOf t ≤ b.cells.length then some (.agg ((b.cells.drop o).take (P.cellsOf t)).toArray) else none) else b.cells[o]?
  | _ => none
def astore (σ : Heap) (t : TypeId) (a v : Value) : Option Heap :=
  match a with
  | .pointer (some ⟨n, o, none⟩) => (look σ n).bind fun b =>
      if b.own = true ∧ (P.info? t).isSome = true ∧ v.cells.size = P.cellsOf t ∧ o + v.cells.size ≤ b.cells.length ∧ v.cells.all (·.oneCell') = true then
        some (σ.set n (some { b with cells := setAll b.cells o v.cells.toList })) else none
  | _ => none
def afill (place : Nat → Option (Nat × Nat)) : List Value → List (Nat × Value) → Option (List Value)
  | cs, [] => some cs
  | cs, (i, v) :: rest => (place i).bind fun p =>
      if v.cells.size = p.2 ∧ p.1 + v.cells.size ≤ cs.length ∧ v.cells.all (·.oneCell') = true then afill place (setAll cs p.1 v.cells.toList) rest else none
def abuild (t : TypeId) (parts : List (Nat × Value)) : Option Value :=
  match P.underlying t with
  | some (.struct fs) => if fs.all (fun f => (P.info? f.type).isSome) = true then
      (tzero P t).bind fun z => if z.cells.all scal = true then (afill (fun i => (fs[i]?).map fun f => (f.offset, P.cellsOf f.type)) z.cells.toList parts).map fun cs => .agg cs.toArray else none else none
  | _ => none
def abuildSlice (σ : Heap) (t : TypeId) (len : Nat) (parts : List (Nat × Value)) : Option (Value × Heap) :=
  match P.underlying t with
  | some (.slice e) => if (P.info? e).isSome = true ∧ len * P.cellsOf e ≤ 16777216 then
      (tzero P e).bind fun z => if z.cells.size = P.cellsOf e ∧ 0 < P.cellsOf e ∧ z.cells.all scal = true then
        (afill (fun i => some (i * P.cellsOf e, P.cellsOf e)) (List.replicate len z.cells.toList).flatten parts).map fun cs =>
          (.slice (some ⟨σ.length, 0, none⟩) len len, σ ++ [some ⟨cs, true, P.cellsOf e⟩]) else none else none
  | _ => none
def amakeSlice (σ : Heap) (t : TypeId) (n m : Value) : Option (Value × Heap) :=
  match P.underlying t, n, m with
  | some (.slice e), .int _ n, .int _ m => if (P.info? e).isSome = true ∧ 0 ≤ n ∧ n ≤ m ∧ m ≤ 140737488355328 ∧ m * P.bytesOf e ≤ 140737488355328 then
      (tzero P e).bind fun z => if z.cells.size = P.cellsOf e ∧ 0 < P.cellsOf e ∧ z.cells.all scal = true then
        some (.slice (some ⟨σ.length, 0, none⟩) n.toNat (if n = m then n.toNat else n.toNat + 1), σ ++ [some ⟨(List.replicate n.toNat z.cells.toList).flatten, true, P.cellsOf e⟩]) else none else none
  | _, _, _ => none
def asI : Value → Option Int
  | .int _ n => some n
  | _ => none
/-- A bound of a slice expression: what is written there, or what stands for it. -/
def abound (v : Option Value) (d : Int) : Option Int := match v with | some v => asI v | none => some d
/-- A block that has elements of this size. -/
def sliceable (σ : Heap) (sz : Nat) : Option Addr → Bool
  | some ⟨n, _, none⟩ => match look σ n with | some b => !b.own || b.sz == sz | none => false
  | _ => false
def aslice (σ : Heap) (t : TypeId) (x : Value) (lo hi mx : Option Value) : Option Value :=
  match P.underlying t, x with
  | some .string, .string s => (abound lo 0).bind fun l => (abound hi s.size).bind fun h =>
      if mx.isNone = true ∧ 0 ≤ l ∧ l ≤ h ∧ h ≤ s.size then some (.string (s.extract l.toNat h.toNat)) else none
  | some (.slice e), .slice a len c => if (P.info? e).isSome = true then (abound lo 0).bind fun l => (abound hi len).bind fun h => (abound mx len).bind fun m =>
      if (0 ≤ l ∧ l ≤ h ∧ h ≤ m ∧ m ≤ len ∧ (mx.isSome = true → hi.isSome = true)) ∧ (l = 0 ∨ sliceable σ (P.cellsOf e) a = true) then
        some (.slice (a.map fun ad => { ad with off := ad.off + l.toNat * P.cellsOf e }) (h - l).toNat
          (if a.isNone = true then 0 else if l < h ∧ ((mx.isSome = true ∧ m = h) ∨ (mx.isSome = false ∧ h = len ∧ c = len)) then (h - l).toNat else (h - l).toNat + 1)) else none else none
  | _, _ => none
def afieldAddr (s : TypeId) (x : Value) (f : Nat) : Option Value :=
  match P.underlying s, x with
  | some (.struct fs), .pointer (some ⟨n, o, none⟩) => (fs[f]?).bind fun fl => if P.cellsOf fl.type = 0 then none else some (.pointer (some ⟨n, o + fl.offset, none⟩))
  | _, _ => none
def apart (t : TypeId) (cs : Array Value) (off : Nat) : Option Value :=
  (aggT P t).bind fun g => if g = true then some (.agg (cs.extract off (off + P.cellsOf t))) else cs[off]?
def afield (s : TypeId) (x : Value) (f : Nat) : Option Value :=
  match P.underlying s, x with
  | some (.struct fs), .agg cs => (fs[f]?).bind fun fl => apart P fl.type cs fl.offset
  | _, _ => none
def aindexAddr (t : TypeId) (x i : Value) : Option Value :=
  match P.underlying t, x, i with
  | some (.slice e), .slice (some ⟨n, o, none⟩) len _, .int _ i => if (P.info? e).isSome = true ∧ 0 ≤ i ∧ i < len then some (.pointer (some ⟨n, o + i.toNat * P.cellsOf e, none⟩)) else none
  | some (.array len e), .pointer (some ⟨n, o, none⟩), .int _ i => if (P.info? e).isSome = true ∧ 0 ≤ i ∧ i < len then some (.pointer (some ⟨n, o + i.toNat * P.cellsOf e, none⟩)) else none
  | _, _, _ => none
def aindex (t : TypeId) (x i : Value) : Option Value :=
  match P.underlying t, x, i with
  | some .string, .string s, .int _ i => if 0 ≤ i then (s.data[i.toNat]?).map fun b => .int .u8 b.toNat else none
  | some (.array len e), .agg cs, .int _ i => if (P.info? e).isSome = true ∧ 0 ≤ i ∧ i < len then apart P e cs (i.toNat * P.cellsOf e) else none
  | _, _, _ => none
def aextract : Value → Nat → Option Value
  | .tuple vs, i => if 2 ≤ vs.size then vs[i]? else none
  | _, _ => none
def anilCheck : Value → Option Value
  | .pointer (some a) => some (.pointer (some a))
  | .func (.func f) a b => some (.func (.func f) a b)
  | _ => none
def aconvert (src dst : TypeId) (x : Value) : Option Value :=
  match P.underlying src, P.underlying dst, x with
  | some _, some (.int k), .int _ n => some (.int k (k.wrap n))
  | some _, some .string, .string s => some (.string s)
  | _, _, _ => none
def amakeInterface (t : TypeId) (x : Value) : Option Value :=
  match P.underlying t with
  | some (.interface _) => none
  | some _ => some (.iface t x)
  | none => none
def aunary : UnOp → Value → Option Value
  | .neg, .int k n => some (.int k (k.wrap (0 - n)))
  | .xor, .int k n => some (.int k (Go.bits .xor k (if k.signed then -1 else k.max) n))
  | .not, .bool b => some (.bool !b)
  | _, _ => none
def aintOp (op : BinOp) (k : IntKind) (a b : Int) : Option Value :=
  match op with
  | .add => some (.int k (k.wrap (a + b)))
  | .sub => some (.int k (k.wrap (a - b)))
  | .mul => some (.int k (k.wrap (a * b)))
  | .quo => if b = 0 then none else some (.int k (k.wrap (a.tdiv b)))
  | .rem => if b = 0 then none else some (.int k (a.tmod b))
  | .and => some (.int k (Go.bits .and k a b))
  | .or => some (.int k (Go.bits .or k a b))
  | .xor => some (.int k (Go.bits .xor k a b))
  | .andNot => some (.int k (Go.bits .andNot k a b))
  | .shl => if b < 0 then none else some (.int k (k.wrap (a * 2 ^ (min b.toNat k.bits))))
  | .shr => if b < 0 then none else some (.int k (a.fdiv (2 ^ (min b.toNat k.bits))))
  | .eql => some (.bool (decide (a = b)))
  | .neq => some (.bool (decide (a ≠ b)))
  | .lss => some (.bool (decide (a < b)))
  | .leq => some (.bool (decide (a ≤ b)))
  | .gtr => some (.bool (decide (b < a)))
  | .geq => some (.bool (decide (b ≤ a)))
def astrOp (op : BinOp) (a b : ByteArray) : Option Value :=
  match op with
  | .add => if ((a.size + b.size : Nat) : Int) ≤ 9223372036854775807 then some (.string (a ++ b)) else none
  | .eql => some (.bool (decide (a = b)))
  | .neq => some (.bool (decide (a ≠ b)))
  | .lss => some (.bool (Op.bytesLess a.toList b.toList))
  | _ => none
/-- '==' of two values of a type. -/
def aeq : Nat → TypeId → Value → Value → Option Bool
  | 0, _, _, _ => none
  | d + 1, t, x, y =>
    match P.underlying t, x, y with
    | some .bool, .bool a, .bool b => some (decide (a = b))
    | some (.int _), .int k a, .int k' b => if k = k' then some (decide (a = b)) else none
    | some .string, .string a, .string b => some (decide (a = b))
    | some (.pointer _), .pointer none, .pointer b => some b.isNone
    | some (.pointer _), .pointer (some _), .pointer none => some false
    | some (.slice _), .slice none 0 0, .slice none 0 0 => some true
    | some (.slice _), .slice (some _) (_ + 1) _, .slice none 0 0 => some false
    | some (.slice _), .slice (some _) 0 0, .slice none 0 0 => some false
    | some (.interface _), .iface _ _, .nilIface => some false
    | some (.interface _), .nilIface, .iface _ _ => some false
    | some (.interface _), .nilIface, .nilIface => some true
    | some (.func _ _ _), .func _ _ _, .nilFunc => some false
    | some (.func _ _ _), .nilFunc, .nilFunc => some true
    | some (.struct fs), .agg xs, .agg ys => if P.stoodInHeld t = false ∧ fs.all (fun f => (P.info? f.type).isSome && f.name != "_") = true then
        fs.toList.foldr (fun f (r : Option Bool) => ((apart P f.type xs f.offset).bind fun u => (apart P f.type ys f.offset).bind fun v => aeq d f.type u v).bind fun e => if e = true then r else some false) (some true) else none
    | _, _, _ => none
/-- What '==' asks of the literal nil is asked of the operands' texts. -/
def constOp : Operand → Bool
  | .const _ => true
  | _ => false
def aguardEq (t : TypeId) (x y : Operand) : Value → Value → Bool
  | .nilIface, .nilIface => constOp x || constOp y
  | .agg _, .agg _ => !(P.eqGuardType P.depth t)
  | .agg _, _ => false
  | _, _ => true
def aguard (op : BinOp) (t : TypeId) (x y : Operand) (a b : Value) : Bool :=
  match op with
  | .eql | .neq => aguardEq P t x y a b
  | _ => true
def abin (op : BinOp) (t : TypeId) (x y : Value) : Option Value :=
  match x, y with
  | .int k a, .int k' b => if k = k' ∨ op = .shl ∨ op = .shr then aintOp op k a b else none
  | .string a, .string b => astrOp op a b
  | x, y => match op with
    | .eql => (aeq P 10000 t x y).map fun b => .bool b
    | .neq => (aeq P 10000 t x y).map fun b => .bool (!b)
    | _ => none
def alen (argTypes : Array TypeId) (args : List Value) : Option Value :=
  match ((argTypes[0]?).bind P.underlying : Option TypeDesc), (args[0]? : Option Value) with
  | some .string, some (.string s) => some (.int .i64 s.size)
  | some (.slice _), some (.slice _ n _) => some (.int .i64 n)
  | _, _ => none
/-- The cells that an append takes. -/
def asrc (σ : Heap) (sz : Nat) : Value → Option (Nat × List Value)
  | .slice _ 0 _ => some (0, [])
  | .slice (some ⟨n, o, none⟩) len _ => (look σ n).bind fun b => if o + len * sz ≤ b.cells.length then some (len, (b.cells.drop o).take (len * sz)) else none
  | .string s => if sz = 1 then some (s.size, s.data.toList.map fun b => .int .u8 b.toNat) else none
  | _ => none
def srcOk (e : TypeId) : TypeDesc → Bool
  | .slice _ => true
  | .string => P.cellsOf e == 1
  | _ => false
def aappend (σ : Heap) (argTypes : Array TypeId) (s x : Value) : Option (Value × Heap) :=
  match ((argTypes[0]?).bind P.underlying : Option TypeDesc), ((argTypes[1]?).bind P.underlying : Option TypeDesc) with
  | some (.slice e), some xt => if (P.info? e).isSome = true ∧ srcOk P e xt = true then
      (tzero P e).bind fun z => if z.cells.size = P.cellsOf e ∧ 0 < P.cellsOf e ∧ 0 < P.bytesOf e then
      (asrc σ (P.cellsOf e) x).bind fun new =>
      match s with
      | .slice a len c =>
        if (len + new.1 + 410) * P.bytesOf e ≤ 225179981368524 then
          if len = 0 ∧ c = 0 then some (.slice (some ⟨σ.length, 0, none⟩) new.1 (new.1 + 1), σ ++ [some ⟨new.2, true, P.cellsOf e⟩])
          else match a with
          | some ⟨n, o, none⟩ => (look σ n).bind fun b => if b.own = true ∧ b.sz = P.cellsOf e ∧ b.cells.length = o + len * P.cellsOf e then
              some (.slice (some ⟨σ.length, 0, none⟩) (len + new.1) (len + new.1 + 1), (σ.set n none) ++ [some ⟨b.cells.drop o ++ new.2, true, P.cellsOf e⟩]) else none
          | _ => none
        else none
      | _ => none else none else none
  | _, _ => none

/-- An operation that is no call of a function: the value that it leaves, and the heap. -/
def aop (ρ : Operand → Value) (σ : Heap) : Op → Option (Value × Heap)
  | .move x => some (ρ x, σ)
  | .assign x => some (ρ x, σ)
  | .pick c a b => match ρ c with | .bool t => some (if t then ρ a else ρ b, σ) | _ => none
  | .alloc t => if (P.info? t).isSome = true then (tzero P t).bind fun z => if z.cells.all scal = true then some (newPtr σ, σ ++ [some ⟨z.cells.toList, true, 0⟩]) else none else none
  | .box t x => if (ρ x).cells.all (·.oneCell') = true then some (newPtr σ, σ ++ [some ⟨(ρ x).cells.toList, true, 0⟩]) else none
  | .build t parts => (abuild P t (parts.toList.map fun p => (p.1, ρ p.2))).map (·, σ)
  | .buildSlice t len parts => abuildSlice P σ t len (parts.toList.map fun p => (p.1, ρ p.2))
  | .load t a => (aload P σ t (ρ a)).map (·, σ)
  | .store t a x => (astore P σ t (ρ a) (ρ x)).map (undef, ·)
  | .nilCheck x => (anilCheck (ρ x)).map (·, σ)
  | .binOp op t x y _ => if aguard P op t x y (ρ x) (ρ y) = true then (abin P op t (ρ x) (ρ y)).map (·, σ) else none
  | .unOp op _ x => (aunary op (ρ x)).map (·, σ)
  | .convert s d x => (aconvert P s d (ρ x)).map (·, σ)
  | .makeInterface t x => (amakeInterface P t (ρ x)).map (·, σ)
  | .makeFunc f a b => some (.func f (a.map ρ) (b.map ρ), σ)
  | .makeSlice t n m => amakeSlice P σ t (ρ n) (ρ m)
  | .slice t x lo hi mx => (aslice P σ t (ρ x) (lo.map ρ) (hi.map ρ) (mx.map ρ)).map (·, σ)
  | .fieldAddr s x f => (afieldAddr P s (ρ x) f).map (·, σ)
  | .field s x f => (afield P s (ρ x) f).map (·, σ)
  | .indexAddr t x i => (aindexAddr P t (ρ x) (ρ i)).map (·, σ)
  | .index t x i => (aindex P t (ρ x) (ρ i)).map (·, σ)
  | .extract x i => (aextract (ρ x) i).map (·, σ)
  | .call c => match c.callee with
    | .builtin .len => (alen P c.argTypes (c.args.toList.map ρ)).map (·, σ)
    | .builtin .append => match c.args.toList with
      | [s, x] => aappend P σ c.argTypes (ρ s) (ρ x)
      | _ => none
    | _ => none
  | _ => none
/-- An operation that looks at no memory. -/
def heapFree : Op → Bool
  | .move _ | .assign _ | .pick .. | .build .. | .nilCheck _ | .binOp .. | .unOp .. | .convert .. | .makeInterface .. | .makeFunc .. | .fieldAddr .. | .field .. | .indexAddr .. | .index .. | .extract .. => true
  | .call { callee := .builtin .len, .. } => true
  | _ => false
end
end Go.Proofs.YtkgdkommahgakaaDoor.Abs

/- The abstract machine: what an operation does there, it does in every world that is as the abstract heap says. Part one: operations that make and write nothing. -/
namespace Go.Proofs.YtkgdkommahgakaaDoor.Abs
open Go Go.RowKit
set_option linter.unusedVariables false
set_option linter.unusedSimpArgs false

section
variable {P : Program} {base G : Nat} {β : Map} {σ : Heap} {w : World}

theorem run_isAgg {t : TypeId} {g : Bool} (h : aggT P t = some g) (w : World) : (isAgg t).run P w = .ok g w := by
  unfold aggT at h
  obtain ⟨d, hd, rfl⟩ := Option.map_eq_some_iff.1 h
  unfold isAgg
  simp only [Sem.run_bind, run_underlying hd, Result.andThen_ok]
  cases d <;> rfl
theorem info_of_aggT {t : TypeId} {g : Bool} (h : aggT P t = some g) : ∃ i, P.info? t = some i := by
  unfold aggT at h
  obtain ⟨d, hd, _⟩ := Option.map_eq_some_iff.1 h
  unfold Program.underlying at hd
  cases hi : P.info? t with
  | none => rw [hi] at hd; simp at hd
  | some i => exact ⟨i, rfl⟩
theorem info_of_under {t : TypeId} {d : TypeDesc} (hd : P.underlying t = some d) : ∃ i, P.info? t = some i := by
  unfold Program.underlying at hd
  cases hi : P.info? t with
  | none => rw [hi] at hd; simp at hd
  | some i => exact ⟨i, rfl⟩
theorem info_some {t : TypeId} (h : (P.info? t).isSome = true) : ∃ i, P.info? t = some i := Option.isSome_iff_exists.1 h

/-- A cell of a block that lives. -/
theorem Holds.cell {cb : CB} {b : Blk} (h : Holds β cb b w) {i : Nat} {v : Value} (hv : b.cells[i]? = some v) : ∃ v', w.cell? ⟨cb.blk, cb.off + i, none⟩ = some v' ∧ Rel β v v' := by
  obtain ⟨c, e, frz, hc, _, _, h5⟩ := h.obj
  obtain ⟨v', hv', hr⟩ := h5 i v hv
  exact ⟨v', by simp [World.cell?, hc, hv'], hr⟩
theorem addr_add (b o i : Nat) : (⟨b, o, none⟩ : Addr).add i = ⟨b, o + i, none⟩ := by
  unfold Addr.add
  split
  · rename_i h; subst h; rfl
  · rfl

/-- Some cells of a block that lives, from one on. -/
theorem Holds.cells {cb : CB} {b : Blk} (h : Holds β cb b w) {o n : Nat} (hl : o + n ≤ b.cells.length) :
    ∃ cs, cs.length = n ∧ RelL β ((b.cells.drop o).take n) cs ∧ ∀ j v, cs[j]? = some v → w.cell? ((⟨cb.blk, cb.off + o, none⟩ : Addr).add j) = some v := by
  obtain ⟨c, e, frz, hc, h3, _, h5⟩ := h.obj
  have hlen := h.len
  refine ⟨(c.toList.drop (cb.off + o)).take n, ?_, ?_, ?_⟩
  · rw [List.length_take, List.length_drop]; simp; omega
  · refine RelL.of_get (by rw [List.length_take, List.length_take, List.length_drop, List.length_drop]; simp; omega) fun i v v' h1 h2 => ?_
    rw [List.getElem?_take] at h1 h2
    split at h1
    · rename_i hi
      rw [if_pos hi] at h2
      rw [List.getElem?_drop] at h1 h2
      obtain ⟨v2, hv2, hr⟩ := h5 (o + i) v h1
      have : c.toList[cb.off + o + i]? = some v2 := by rw [Array.getElem?_toList, Nat.add_assoc]; exact hv2
      rw [this] at h2
      exact Option.some.inj h2 ▸ hr
    · simp at h1
  · intro j v hj
    rw [List.getElem?_take] at hj
    split at hj
    · rw [List.getElem?_drop] at hj
      rw [addr_add]
      simp only [World.cell?, hc]
      rw [← Array.getElem?_toList]
      simpa using hj
    · simp at hj

theorem load_ok (hs : Sim base G β σ w) {t : TypeId} {a a' v : Value} (ha : Rel β a a') (h : aload P σ t a = some v) : ∃ v', (Instr.loadAt t a').run P w = .ok v' w ∧ Rel β v v' := by
  unfold aload at h
  split at h
  · rename_i n o
    obtain ⟨cb, hcb, _, rfl⟩ := ha.ptr_inv
    obtain ⟨b, hb, h⟩ := Option.bind_eq_some_iff.1 h
    obtain ⟨g, hg, h⟩ := Option.bind_eq_some_iff.1 h
    have hh := hs.holds n cb b hcb hb
    obtain ⟨i, hi⟩ := info_of_aggT hg
    have e1 : ∀ x : Addr, (Instr.loadAt t (.pointer (some x))).run P w = (loadVar t x).run P w := fun x => rfl
    rw [e1]
    unfold loadVar
    simp only [Sem.run_bind, run_isAgg hg, Result.andThen_ok]
    cases g with
    | true =>
      simp only [if_true] at h ⊢
      split at h
      · rename_i hl
        obtain rfl := Option.some.inj h
        obtain ⟨cs, hcs, hr, hcell⟩ := hh.cells hl
        simp only [Sem.run_bind, run_sizeOf w hi, Result.andThen_ok]
        rw [← hcs, run_loadCells_list w _ cs hcell]
        exact ⟨_, rfl, .agg _ _ (by simpa [hcs] using hr)⟩
      · simp at h
    | false =>
      simp only [Bool.false_eq_true, if_false] at h ⊢
      obtain ⟨v', hv', hr⟩ := hh.cell h
      refine ⟨v', ?_, hr⟩
      rw [run_load, hv']
  · simp at h

theorem fieldAddr_ok {s : TypeId} {x x' v : Value} {f : Nat} (hx : Rel β x x') (h : afieldAddr P s x f = some v) : ∃ v', (Instr.fieldAt s x' f).run P w = .ok v' w ∧ Rel β v v' := by
  unfold afieldAddr at h
  split at h
  · rename_i fs n o hu
    obtain ⟨cb, hcb, _, rfl⟩ := hx.ptr_inv
    obtain ⟨fl, hfl, h⟩ := Option.bind_eq_some_iff.1 h
    split at h
    · simp at h
    · rename_i h0
      obtain rfl := Option.some.inj h
      have hi : ∃ i, P.info? fl.type = some i := by
        cases hi : P.info? fl.type with
        | none => simp [Program.cellsOf, hi] at h0
        | some i => exact ⟨i, rfl⟩
      obtain ⟨i, hi⟩ := hi
      refine ⟨.pointer (some ⟨cb.blk, cb.off + (o + fl.offset), none⟩), ?_, .ptr n _ cb hcb⟩
      unfold Instr.fieldAt fieldPlace
      simp only [Sem.run_bind, run_underlying hu, Result.andThen_ok, hfl, Instr.sureAddr, Sem.run_pure, run_sizeOf w hi, h0, if_false, addr_add]
      rw [Nat.add_assoc]
  · simp at h

theorem part_ok {t : TypeId} {cs cs' : Array Value} {off : Nat} {v : Value} (hc : RelL β cs.toList cs'.toList) (h : apart P t cs off = some v) : ∃ v', (part t cs' off).run P w = .ok v' w ∧ Rel β v v' := by
  unfold apart at h
  obtain ⟨g, hg, h⟩ := Option.bind_eq_some_iff.1 h
  obtain ⟨i, hi⟩ := info_of_aggT hg
  unfold part
  simp only [Sem.run_bind, run_isAgg hg, Result.andThen_ok]
  cases g with
  | true =>
    simp only [if_true] at h ⊢
    obtain rfl := Option.some.inj h
    simp only [Sem.run_bind, run_sizeOf w hi, Result.andThen_ok, Sem.run_pure]
    refine ⟨_, rfl, .agg _ _ ?_⟩
    simp only [Array.toList_extract, List.extract_eq_take_drop]
    exact (hc.drop _).take _
  | false =>
    simp only [Bool.false_eq_true, if_false] at h ⊢
    obtain ⟨v', hv', hr⟩ := hc.get off v (by rw [Array.getElem?_toList]; exact h)
    rw [Array.getElem?_toList] at hv'
    exact ⟨v', by rw [hv']; rfl, hr⟩

theorem field_ok {s : TypeId} {x x' v : Value} {f : Nat} (hx : Rel β x x') (h : afield P s x f = some v) : ∃ v', (Instr.field s x' f).run P w = .ok v' w ∧ Rel β v v' := by
  unfold afield at h
  split at h
  · rename_i fs cs hu
    obtain ⟨cs', rfl, hr⟩ := hx.agg_inv
    obtain ⟨fl, hfl, h⟩ := Option.bind_eq_some_iff.1 h
    obtain ⟨v', hv', hr'⟩ := part_ok (w := w) hr h
    refine ⟨v', ?_, hr'⟩
    unfold Instr.field
    simp only [Sem.run_bind, run_underlying hu, Result.andThen_ok, hfl, asAgg, Sem.run_pure]
    exact hv'
  · simp at h

theorem indexAddr_ok {t : TypeId} {x x' i i' v : Value} (hx : Rel β x x') (hi : Rel β i i') (h : aindexAddr P t x i = some v) : ∃ v', (Instr.indexAt t x' i').run P w = .ok v' w ∧ Rel β v v' := by
  unfold aindexAddr at h
  split at h
  · rename_i e n o len c k j hu
    obtain rfl := hi.int_inv
    split at h
    · rename_i hc
      obtain ⟨h1, h2, h3⟩ := hc
      obtain ⟨ie, hie⟩ := info_some h1
      obtain rfl := Option.some.inj h
      rcases hx.slc_inv with ⟨_, h0, _⟩ | ⟨_, _, h0, _⟩ | ⟨n', o', c', cb, he, hcb, h4, h5, h6, rfl⟩
      · omega
      · omega
      · simp only [Option.some.injEq, Addr.mk.injEq] at he
        obtain ⟨rfl, rfl, _⟩ := he
        refine ⟨.pointer (some ⟨cb.blk, cb.off + (o + j.toNat * P.cellsOf e), none⟩), ?_, .ptr n _ cb hcb⟩
        unfold Instr.indexAt
        simp only [Sem.run_bind, asIntOf, Sem.run_pure, run_underlying hu, Result.andThen_ok]
        rw [if_pos ⟨h2, h3⟩]
        simp only [Sem.run_bind, run_sizeOf w hie, Result.andThen_ok, Sem.run_pure, addr_add]
        rw [Nat.add_assoc]
    · simp at h
  · rename_i len e n o k j hu
    obtain rfl := hi.int_inv
    split at h
    · rename_i hc
      obtain ⟨h1, h2, h3⟩ := hc
      obtain ⟨ie, hie⟩ := info_some h1
      obtain rfl := Option.some.inj h
      obtain ⟨cb, hcb, _, rfl⟩ := hx.ptr_inv
      refine ⟨.pointer (some ⟨cb.blk, cb.off + (o + j.toNat * P.cellsOf e), none⟩), ?_, .ptr n _ cb hcb⟩
      unfold Instr.indexAt
      simp only [Sem.run_bind, asIntOf, Sem.run_pure, run_underlying hu, Result.andThen_ok, Instr.sureAddr]
      rw [if_pos ⟨h2, h3⟩]
      simp only [Sem.run_bind, run_sizeOf w hie, Result.andThen_ok, Sem.run_pure, addr_add]
      rw [Nat.add_assoc]
    · simp at h
  · simp at h

theorem index_ok {t : TypeId} {x x' i i' v : Value} (hx : Rel β x x') (hi : Rel β i i') (h : aindex P t x i = some v) : ∃ v', (Instr.index t x' i').run P w = .ok v' w ∧ Rel β v v' := by
  unfold aindex at h
  split at h
  · rename_i s k j hu
    obtain rfl := hi.int_inv
    obtain rfl := hx.string_inv
    split at h
    · rename_i h0
      obtain ⟨b, hb, rfl⟩ := Option.map_eq_some_iff.1 h
      refine ⟨_, ?_, .scal _ rfl⟩
      unfold Instr.index
      have hb2 : s[j.toNat]? = some b := by
        have hlt := (Array.getElem?_eq_some_iff.1 hb).1
        have : j.toNat < s.size := hlt
        rw [getElem?_pos s j.toNat this]
        have h3 := (Array.getElem?_eq_some_iff.1 hb).2
        exact congrArg some h3
      simp only [Sem.run_bind, asIntOf, Sem.run_pure, run_underlying hu, Result.andThen_ok, h0, if_true, hb2]
    · simp at h
  · rename_i len e cs k j hu
    obtain rfl := hi.int_inv
    split at h
    · rename_i hc
      obtain ⟨h1, h2, h3⟩ := hc
      obtain ⟨ie, hie⟩ := info_some h1
      obtain ⟨cs', rfl, hr⟩ := hx.agg_inv
      obtain ⟨v', hv', hr'⟩ := part_ok (w := w) hr h
      refine ⟨v', ?_, hr'⟩
      unfold Instr.index
      simp only [Sem.run_bind, asIntOf, Sem.run_pure, run_underlying hu, Result.andThen_ok]
      rw [if_pos ⟨h2, h3⟩]
      simp only [Sem.run_bind, run_sizeOf w hie, Result.andThen_ok]
      exact hv'
    · simp at h
  · simp at h

theorem extract_ok {x x' v : Value} {i : Nat} (hx : Rel β x x') (h : aextract x i = some v) : ∃ v', (Instr.extract x' i).run P w = .ok v' w ∧ Rel β v v' := by
  unfold aextract at h
  split at h
  · rename_i vs
    split at h
    case isFalse => simp at h
    rename_i hsz
    have hne : vs ≠ #[.tuple #[]] := fun h0 => by subst h0; simp at hsz
    obtain ⟨b, rfl, hr⟩ := hx.tuple_inv hne
    obtain ⟨v', hv', hr'⟩ := hr.get i v (by rw [Array.getElem?_toList]; exact h)
    rw [Array.getElem?_toList] at hv'
    refine ⟨v', ?_, hr'⟩
    simp [Instr.extract, hv']
  · simp at h

theorem convert_ok {s d : TypeId} {x x' v : Value} (hx : Rel β x x') (h : aconvert P s d x = some v) : ∃ v', (convert s d x').run P w = .ok v' w ∧ Rel β v v' := by
  unfold aconvert at h
  split at h
  · rename_i k n ds hs hd
    obtain rfl := hx.int_inv
    obtain rfl := Option.some.inj h
    refine ⟨_, ?_, .scal _ rfl⟩
    unfold convert
    simp only [Sem.run_bind, run_underlying hs, run_underlying hd, Result.andThen_ok]
    cases ds <;> rfl
  · rename_i n ds hs hd
    obtain rfl := hx.string_inv
    obtain rfl := Option.some.inj h
    refine ⟨_, ?_, .scal _ rfl⟩
    unfold convert
    simp only [Sem.run_bind, run_underlying hs, run_underlying hd, Result.andThen_ok]
    cases ds <;> rfl
  · simp at h

theorem makeInterface_ok {t : TypeId} {x x' v : Value} (hx : Rel β x x') (h : amakeInterface P t x = some v) : ∃ v', (Instr.makeInterface t x').run P w = .ok v' w ∧ Rel β v v' := by
  unfold amakeInterface at h
  split at h
  · simp at h
  · rename_i d hni hu
    obtain rfl := Option.some.inj h
    refine ⟨.iface t x', ?_, .iface _ _ _ hx⟩
    unfold Instr.makeInterface
    simp only [Sem.run_bind, run_underlying hu, Result.andThen_ok]
    cases d <;> first | rfl | exact (hni _ hu).elim
  · simp at h

theorem unary_ok {op : UnOp} {x x' v : Value} (hx : Rel β x x') (h : aunary op x = some v) : ∃ v', (Op.unary op x').run P w = .ok v' w ∧ Rel β v v' := by
  unfold aunary at h
  split at h
  · obtain rfl := hx.int_inv
    obtain rfl := Option.some.inj h
    exact ⟨_, rfl, .scal _ rfl⟩
  · rename_i k n
    obtain rfl := hx.int_inv
    obtain rfl := Option.some.inj h
    refine ⟨_, ?_, .scal _ rfl⟩
    simp only [Op.unary, Op.intBits, Go.bits]
    rfl
  · obtain rfl := hx.bool_inv
    obtain rfl := Option.some.inj h
    exact ⟨_, rfl, .scal _ rfl⟩
  · simp at h
end
end Go.Proofs.YtkgdkommahgakaaDoor.Abs

/- The abstract machine: what an operation does there, it does in every world that is as the abstract heap says. Part two: slices of slices, operators, parts that are put together. -/
namespace Go.Proofs.YtkgdkommahgakaaDoor.Abs
open Go Go.RowKit
set_option linter.unusedVariables false
set_option linter.unusedSimpArgs false

section
variable {P : Program} {base G : Nat} {β : Map} {σ : Heap} {w : World}

/-- How the bounds of a slice expression are read. -/
def RelO (β : Map) : Option Value → Option Value → Prop
  | none, none => True
  | some a, some b => Rel β a b
  | _, _ => False

theorem bound_some {v v' : Value} {l : Int} (hv : Rel β v v') (h : asI v = some l) : ∃ k, v' = .int k l := by
  unfold asI at h
  split at h
  · rename_i k n
    obtain rfl := hv.int_inv
    exact ⟨k, by rw [Option.some.inj h]⟩
  · simp at h
theorem run_sliceBound (k : IntKind) (i : Int) (y : Nat) (code : BoundsCode) (h0 : 0 ≤ i) (h1 : i ≤ y) : (Instr.sliceBound (.int k i) y code).run P w = .ok i.toNat w := by
  unfold Instr.sliceBound
  simp only [Sem.run_bind, asIntOf, Sem.run_pure, Result.andThen_ok]
  rw [if_pos ⟨h0, h1⟩]
  rfl

theorem run_bounds (isSlice : Bool) {len cap : Nat} {lo hi mx lo' hi' mx' : Option Value} {l h m : Int} (rlo : RelO β lo lo') (rhi : RelO β hi hi') (rmx : RelO β mx mx')
    (hl : abound lo 0 = some l) (hh : abound hi len = some h) (hm : abound mx len = some m) (h0 : 0 ≤ l) (h1 : l ≤ h) (h2 : h ≤ m) (h3 : m ≤ len) (h4 : mx.isSome = true → hi.isSome = true) (hc : len ≤ cap) :
    (Instr.sliceBounds isSlice len cap lo' hi' mx').run P w = .ok (l.toNat, h.toNat, if mx.isSome then m.toNat else cap) w := by
  unfold Instr.sliceBounds
  cases mx with
  | none =>
    cases mx' with
    | some _ => exact rmx.elim
    | none =>
      simp only [Sem.run_bind, Sem.run_pure, Result.andThen_ok, Option.isSome_none, Bool.false_eq_true, if_false]
      cases hi with
      | none =>
        cases hi' with
        | some _ => exact rhi.elim
        | none =>
          simp only [abound, Option.some.injEq] at hh
          cases lo with
          | none =>
            cases lo' with
            | some _ => exact rlo.elim
            | none =>
              simp only [abound, Option.some.injEq] at hl
              subst hl; subst hh
              simp
          | some v =>
            cases lo' with
            | none => exact rlo.elim
            | some v' =>
              obtain ⟨k, rfl⟩ := bound_some rlo hl
              subst hh
              simp only [Sem.run_bind, Sem.run_pure, Result.andThen_ok, run_sliceBound k l _ _ h0 h1]
              simp
      | some u =>
        cases hi' with
        | none => exact rhi.elim
        | some u' =>
          obtain ⟨k, rfl⟩ := bound_some rhi hh
          simp only [Sem.run_bind, run_sliceBound k h _ _ (by omega) (by omega : h ≤ (cap : Int)), Result.andThen_ok]
          cases lo with
          | none =>
            cases lo' with
            | some _ => exact rlo.elim
            | none =>
              simp only [abound, Option.some.injEq] at hl
              subst hl
              simp
          | some v =>
            cases lo' with
            | none => exact rlo.elim
            | some v' =>
              obtain ⟨k', rfl⟩ := bound_some rlo hl
              simp only [Sem.run_bind, run_sliceBound k' l _ _ h0 (by omega : l ≤ (h.toNat : Int)), Result.andThen_ok, Sem.run_pure]
  | some u =>
    cases mx' with
    | none => exact rmx.elim
    | some u' =>
      obtain ⟨k, rfl⟩ := bound_some rmx hm
      have := h4 rfl
      cases hi with
      | none => simp at this
      | some x =>
        cases hi' with
        | none => exact rhi.elim
        | some x' =>
          obtain ⟨k', rfl⟩ := bound_some rhi hh
          simp only [Sem.run_bind, run_sliceBound k m _ _ (by omega) (by omega : m ≤ (cap : Int)), Result.andThen_ok, run_sliceBound k' h _ _ (by omega) (by omega : h ≤ (m.toNat : Int))]
          cases lo with
          | none =>
            cases lo' with
            | some _ => exact rlo.elim
            | none =>
              simp only [abound, Option.some.injEq] at hl
              subst hl
              simp
          | some v =>
            cases lo' with
            | none => exact rlo.elim
            | some v' =>
              obtain ⟨k'', rfl⟩ := bound_some rlo hl
              simp only [Sem.run_bind, run_sliceBound k'' l _ _ h0 (by omega : l ≤ (h.toNat : Int)), Result.andThen_ok, Sem.run_pure, Option.isSome_some, if_true]

theorem slice_ok (hs : Sim base G β σ w) {t : TypeId} {x x' : Value} {lo hi mx lo' hi' mx' : Option Value} {v : Value} (hx : Rel β x x') (rlo : RelO β lo lo') (rhi : RelO β hi hi') (rmx : RelO β mx mx')
    (h : aslice P σ t x lo hi mx = some v) : ∃ v', (Instr.sliceAt t x' lo' hi' mx').run P w = .ok v' w ∧ Rel β v v' := by
  unfold aslice at h
  split at h
  · rename_i s hu
    obtain rfl := hx.string_inv
    obtain ⟨l, hl, h⟩ := Option.bind_eq_some_iff.1 h
    obtain ⟨r, hr, h⟩ := Option.bind_eq_some_iff.1 h
    split at h
    · rename_i hc
      obtain ⟨h1, h2, h3, h4⟩ := hc
      obtain rfl := Option.some.inj h
      refine ⟨_, ?_, .scal _ rfl⟩
      have hmx : mx = none := by cases mx with | none => rfl | some => simp at h1
      subst hmx
      have hmx' : mx' = none := by cases mx' with | none => rfl | some => exact rmx.elim
      subst hmx'
      have hb := run_bounds (P := P) (w := w) false rlo rhi (show RelO β none none from trivial) hl hr (show abound none (s.size : Int) = some (s.size : Int) from rfl) h2 h3 h4 (Int.le_refl _) (by simp) (Nat.le_refl s.size)
      unfold Instr.sliceAt
      simp only [Sem.run_bind, run_underlying hu, Result.andThen_ok, Instr.slice, Option.isSome_none, Bool.false_eq_true, if_false, hb, Sem.run_pure]
    · simp at h
  · rename_i e a len c hu
    split at h
    · rename_i hi0
      obtain ⟨ie, hie⟩ := info_some hi0
      obtain ⟨l, hl, h⟩ := Option.bind_eq_some_iff.1 h
      obtain ⟨r, hr, h⟩ := Option.bind_eq_some_iff.1 h
      obtain ⟨m, hm, h⟩ := Option.bind_eq_some_iff.1 h
      split at h
      · rename_i hc
        obtain ⟨⟨h1, h2, h3, h4, h5⟩, h6⟩ := hc
        obtain rfl := Option.some.inj h
        rcases hx.slc_inv with ⟨rfl, rfl, rfl, rfl⟩ | ⟨a0, rfl, rfl, y, rfl⟩ | ⟨n, o, c', cb, rfl, hcb, k1, k2, k3, rfl⟩
        · have el : l = 0 := by omega
          have er : r = 0 := by omega
          have em : m = 0 := by omega
          subst el; subst er; subst em
          have hb := run_bounds (P := P) (w := w) true rlo rhi rmx hl hr hm h1 h2 h3 h4 h5 (Nat.le_refl 0)
          refine ⟨.slice none 0 0, ?_, ?_⟩
          · unfold Instr.sliceAt
            simp only [Sem.run_bind, run_underlying hu, Result.andThen_ok, Instr.slice, hb, run_sizeOf w hie, Sem.run_pure]
            cases mx <;> simp
          · simp only [Int.sub_self, Int.toNat_zero, Option.isNone_none, if_true, Option.map_none]
            exact .scal _ rfl
        · have el : l = 0 := by omega
          have er : r = 0 := by omega
          have em : m = 0 := by omega
          subst el; subst er; subst em
          have hb := run_bounds (P := P) (w := w) true rlo rhi rmx hl hr hm h1 h2 h3 h4 h5 (Nat.le_refl 0)
          refine ⟨.slice y 0 0, ?_, ?_⟩
          · unfold Instr.sliceAt
            simp only [Sem.run_bind, run_underlying hu, Result.andThen_ok, Instr.slice, hb, run_sizeOf w hie, Sem.run_pure]
            cases mx <;> simp
          · simp only [Int.sub_self, Int.toNat_zero, Option.isNone_some, Bool.false_eq_true, if_false, Int.lt_irrefl, false_and]
            exact .slc0 _ _ _
        · have hb := run_bounds (P := P) (w := w) true rlo rhi rmx hl hr hm h1 h2 h3 h4 h5 k1
          have hrun : (Instr.sliceAt t (.slice (some ⟨cb.blk, cb.off + o, none⟩) len c') lo' hi' mx').run P w =
              .ok (.slice (if (if mx.isSome then m.toNat else c') = l.toNat then some ⟨cb.blk, cb.off + o, none⟩ else some ⟨cb.blk, cb.off + o + l.toNat * P.cellsOf e, none⟩) (r.toNat - l.toNat) ((if mx.isSome then m.toNat else c') - l.toNat)) w := by
            unfold Instr.sliceAt
            simp only [Sem.run_bind, run_underlying hu, Result.andThen_ok, Instr.slice, hb, run_sizeOf w hie, Sem.run_pure, Option.map_some, addr_add]
          rw [hrun]
          refine ⟨_, rfl, ?_⟩
          have eM : (if mx.isSome then m.toNat else c') ≤ c' := by split <;> omega
          have eh : r.toNat ≤ (if mx.isSome then m.toNat else c') := by split <;> omega
          have elh : (r - l).toNat = r.toNat - l.toNat := by omega
          generalize hMM : (if mx.isSome then m.toNat else c') = M at *
          by_cases hz : M = l.toNat
          · rw [if_pos hz]
            have z1 : r.toNat - l.toNat = 0 := by omega
            rw [elh, z1, hz, Nat.sub_self]
            simp only [Option.isNone_some, Bool.false_eq_true, if_false, if_neg (show ¬ (l < r ∧ (mx.isSome = true ∧ m = r ∨ mx.isSome = false ∧ r = (len : Int) ∧ c = len)) by omega)]
            exact .slc0 _ _ _
          · rw [if_neg hz, elh]
            simp only [Option.map_some, Option.isNone_some, Bool.false_eq_true, if_false]
            have := Rel.slc (β := β) n (o + l.toNat * P.cellsOf e) (r.toNat - l.toNat) (if l < r ∧ ((mx.isSome = true ∧ m = r) ∨ (mx.isSome = false ∧ r = len ∧ c = len)) then r.toNat - l.toNat else r.toNat - l.toNat + 1) (M - l.toNat) cb hcb (by omega) ?_ ?_
            · rw [show cb.off + o + l.toNat * P.cellsOf e = cb.off + (o + l.toNat * P.cellsOf e) by omega]
              exact this
            · intro hflag
              split at hflag
              · rename_i hcond
                rcases hcond.2 with ⟨q1, q2⟩ | ⟨q1, q2, q3⟩
                · rw [if_pos q1] at hMM
                  omega
                · rw [if_neg (by simp [q1])] at hMM
                  have := k2 q3
                  omega
              · omega
            · intro hown
              have k4 := k3 hown
              rcases h6 with h6 | h6
              · have l0 : l.toNat = 0 := by omega
                rw [l0, Nat.zero_mul, Nat.add_zero, Nat.sub_zero]
                exact Nat.le_trans (Nat.add_le_add_left (Nat.mul_le_mul_right _ eM) _) k4
              · unfold sliceable at h6
                simp only at h6
                cases hb' : look σ n with
                | none => rw [hb'] at h6; simp at h6
                | some b =>
                  rw [hb'] at h6
                  have hh := hs.holds n cb b hcb hb'
                  simp only [Bool.or_eq_true, Bool.not_eq_true', beq_iff_eq] at h6
                  have hsz : cb.sz = P.cellsOf e := by
                    rcases h6 with h6 | h6
                    · rw [hh.own, h6] at hown; simp at hown
                    · exact hh.sz.trans h6
                  rw [← hsz, Nat.add_assoc, ← Nat.add_mul]
                  refine Nat.le_trans (Nat.add_le_add_left (Nat.mul_le_mul_right _ ?_) _) k4
                  omega
      · simp at h
    · simp at h
  · simp at h

/-! ### operators -/
theorem bool_eq_dec (a b : Bool) : (a == b) = decide (a = b) := by cases a <;> cases b <;> rfl
theorem int_eq_dec (a b : Int) : (a == b) = decide (a = b) := by
  by_cases h : a = b <;> simp [h]
theorem str_eq_dec (a b : ByteArray) : (a.toList == b.toList) = decide (a = b) := by
  rw [ByteArray.toList_eq, ByteArray.toList_eq]
  by_cases h : a = b
  · simp [h]
  · rw [decide_eq_false h, beq_eq_false_iff_ne]
    intro h2
    apply h
    obtain ⟨⟨x⟩⟩ := a
    obtain ⟨⟨y⟩⟩ := b
    simp at h2
    rw [h2]

theorem eq_ok : ∀ (d : Nat) (t : TypeId) (x y x' y' : Value) (r : Bool), Rel β x x' → Rel β y y' → aeq P d t x y = some r → (Op.equalIn d t x' y').run P w = .ok r w := by
  intro d
  induction d with
  | zero => intro t x y x' y' r _ _ h; simp [aeq] at h
  | succ d ih =>
    intro t x y x' y' r hx hy h
    unfold aeq at h
    split at h
    · rename_i hu
      obtain rfl := hx.bool_inv
      obtain rfl := hy.bool_inv
      obtain rfl := Option.some.inj h
      simp [Op.equalIn, run_underlying hu, bool_eq_dec]
    · rename_i hu
      obtain rfl := hx.int_inv
      obtain rfl := hy.int_inv
      split at h
      · rename_i hk
        subst hk
        obtain rfl := Option.some.inj h
        simp [Op.equalIn, run_underlying hu, int_eq_dec]
      · simp at h
    · rename_i hu
      obtain rfl := hx.string_inv
      obtain rfl := hy.string_inv
      obtain rfl := Option.some.inj h
      simp [Op.equalIn, run_underlying hu, beq_toListBytes, str_eq_dec]
    · rename_i b hu
      obtain rfl := hx.pnil_inv
      obtain rfl := Option.some.inj h
      cases b with
      | none =>
        obtain rfl := hy.pnil_inv
        simp [Op.equalIn, run_underlying hu]
      | some a =>
        obtain ⟨cb, _, _, rfl⟩ := hy.ptr_inv
        simp [Op.equalIn, run_underlying hu]
    · rename_i hu
      obtain ⟨cb, _, _, rfl⟩ := hx.ptr_inv
      obtain rfl := hy.pnil_inv
      obtain rfl := Option.some.inj h
      simp [Op.equalIn, run_underlying hu]
    · rename_i hu
      rcases hx.slc_inv with ⟨_, _, _, rfl⟩ | ⟨_, h0, _⟩ | ⟨_, _, _, _, h0, _⟩
      · rcases hy.slc_inv with ⟨_, _, _, rfl⟩ | ⟨_, h0, _⟩ | ⟨_, _, _, _, h0, _⟩
        · obtain rfl := Option.some.inj h
          simp [Op.equalIn, run_underlying hu]
        · simp at h0
        · simp at h0
      · simp at h0
      · simp at h0
    · rename_i hu
      rcases hx.slc_inv with ⟨h0, _⟩ | ⟨_, _, h0, _⟩ | ⟨_, _, _, _, _, _, _, _, _, rfl⟩
      · simp at h0
      · simp at h0
      · rcases hy.slc_inv with ⟨_, _, _, rfl⟩ | ⟨_, h0, _⟩ | ⟨_, _, _, _, h0, _⟩
        · obtain rfl := Option.some.inj h
          simp [Op.equalIn, run_underlying hu]
        · simp at h0
        · simp at h0
    · rename_i hu
      obtain ⟨cb, c', rfl⟩ := hx.slc0_inv
      rcases hy.slc_inv with ⟨_, _, _, rfl⟩ | ⟨_, h0, _⟩ | ⟨_, _, _, _, h0, _⟩
      · obtain rfl := Option.some.inj h
        simp [Op.equalIn, run_underlying hu]
      · simp at h0
      · simp at h0
    · rename_i hu
      obtain ⟨b, rfl, _⟩ := hx.iface_inv
      obtain rfl := hy.nilIface_inv
      obtain rfl := Option.some.inj h
      simp [Op.equalIn, run_underlying hu]
    · rename_i hu
      obtain ⟨b, rfl, _⟩ := hy.iface_inv
      obtain rfl := hx.nilIface_inv
      obtain rfl := Option.some.inj h
      simp [Op.equalIn, run_underlying hu]
    · rename_i hu
      obtain rfl := hx.nilIface_inv
      obtain rfl := hy.nilIface_inv
      obtain rfl := Option.some.inj h
      simp [Op.equalIn, run_underlying hu]
    · rename_i hu
      obtain ⟨b, b', rfl, _⟩ := hx.func_inv
      obtain rfl := hy.nilFunc_inv
      obtain rfl := Option.some.inj h
      simp [Op.equalIn, run_underlying hu]
    · rename_i hu
      obtain rfl := hx.nilFunc_inv
      obtain rfl := hy.nilFunc_inv
      obtain rfl := Option.some.inj h
      simp [Op.equalIn, run_underlying hu]
    · rename_i fs xs ys hu
      obtain ⟨xs', rfl, rx⟩ := hx.agg_inv
      obtain ⟨ys', rfl, ry⟩ := hy.agg_inv
      split at h
      · rename_i hc
        obtain ⟨hst, hall⟩ := hc
        have hf : P.fieldsOf t = fs := by simp [Program.fieldsOf, hu]
        rw [run_equalIn_struct w d t xs' ys' (by rw [hf]; exact hu) hst, hf]
        have hnames : ∀ f ∈ fs.toList, f.name ≠ "_" := fun f hm => by
          have := Array.all_eq_true_iff_forall_mem.1 hall f (by simpa using hm)
          simp only [Bool.and_eq_true, bne_iff_ne] at this
          exact this.2
        clear hall hf hu hx hy
        generalize fs.toList = l at *
        induction l generalizing r with
        | nil =>
          simp only [List.foldr_nil, Option.some.injEq] at h
          subst h
          simp [Op.eqFields]
        | cons f l ihl =>
          simp only [List.foldr_cons] at h
          obtain ⟨e, he, h⟩ := Option.bind_eq_some_iff.1 h
          obtain ⟨u, hu, he⟩ := Option.bind_eq_some_iff.1 he
          obtain ⟨v, hv, he⟩ := Option.bind_eq_some_iff.1 he
          obtain ⟨u', hu', ru⟩ := part_ok (w := w) rx hu
          obtain ⟨v', hv', rv⟩ := part_ok (w := w) ry hv
          have he' := ih _ _ _ _ _ _ ru rv he
          unfold Op.eqFields
          rw [if_pos (hnames f (by simp))]
          simp only [Sem.run_bind, hu', hv', he', Result.andThen_ok]
          cases e with
          | true =>
            simp only [if_true] at h
            simp only [Bool.not_true, Bool.false_eq_true, if_false]
            exact ihl _ h (fun f hf => hnames f (by simp [hf]))
          | false =>
            simp only [Bool.false_eq_true, if_false, Option.some.injEq] at h
            subst h
            simp
      · simp at h
    · simp at h

theorem aeq_junk : ∀ (d : Nat) (t : TypeId) (x y : Value) (r : Bool), aeq P d t x y = some r → x ≠ junk ∧ y ≠ junk := by
  intro d t x y r h
  cases d with
  | zero => simp [aeq] at h
  | succ d =>
    unfold aeq at h
    split at h <;> first | (cases h; done) | (constructor <;> intro h0 <;> simp [junk] at h0)

theorem Rel.of_nilIface {a : Value} (h : Rel β a .nilIface) (hu : a ≠ junk) : a = .nilIface := by
  cases h with
  | any => exact absurd rfl hu
  | scal => rfl
theorem Rel.of_agg {a : Value} {c : Array Value} (h : Rel β a (.agg c)) (hu : a ≠ junk) : ∃ b, a = .agg b := by
  cases h with
  | any => exact absurd rfl hu
  | scal _ h => simp [Abs.scal] at h
  | agg a b h => exact ⟨a, rfl⟩
theorem Rel.of_int {a : Value} {k : IntKind} {n : Int} (h : Rel β a (.int k n)) (hu : a ≠ junk) : a = .int k n := by
  cases h with
  | any => exact absurd rfl hu
  | scal => rfl
theorem Rel.of_string {a : Value} {s : ByteArray} (h : Rel β a (.string s)) (hu : a ≠ junk) : a = .string s := by
  cases h with
  | any => exact absurd rfl hu
  | scal => rfl
theorem Rel.of_float {a : Value} {k : FloatKind} {n : Nat} (h : Rel β a (.float k n)) (hu : a ≠ junk) : a = .float k n := by
  cases h with
  | any => exact absurd rfl hu
  | scal => rfl
theorem Rel.of_complex {a : Value} {k : FloatKind} {n m : Nat} (h : Rel β a (.complex k n m)) (hu : a ≠ junk) : a = .complex k n m := by
  cases h with
  | any => exact absurd rfl hu
  | scal => rfl

theorem guard_ok {op : BinOp} {t : TypeId} {x y : Operand} {a b a' b' : Value} (ha : Rel β a a') (hb : Rel β b b') (h : aguard P op t x y a b = true) (hu : a ≠ junk) (hv : b ≠ junk) :
    (eqGuard op t x y a' b').run P w = .ok () w := by
  have main : ∀ op', op' = .eql ∨ op' = .neq → aguardEq P t x y a b = true → (eqGuard op' t x y a' b').run P w = .ok () w := by
    intro op' hop hg
    have e1 : ∀ k : Sem Unit, (if (!true) = true then (pure () : Sem Unit) else k) = k := fun k => by simp
    rcases hop with rfl | rfl
    all_goals
      unfold eqGuard
      refine Eq.trans (congrArg (fun s => Sem.run P s w) (e1 _)) ?_
      split
      · have h1 := ha.of_nilIface hu
        have h2 := hb.of_nilIface hv
        subst h1; subst h2
        simp only [aguardEq] at hg
        cases x <;> cases y <;> first | rfl | (simp [constOp] at hg)
      · obtain ⟨x1, rfl⟩ := ha.of_agg hu
        obtain ⟨x2, rfl⟩ := hb.of_agg hv
        have h3 : (!(P.eqGuardType P.depth t)) = true := hg
        simp only [Sem.run_bind, run_program, Result.andThen_ok]
        refine Eq.trans (congrArg (fun s => Sem.run P s w) (if_pos h3)) rfl
      · rfl
  cases op
  case eql => exact main .eql (.inl rfl) h
  case neq => exact main .neq (.inr rfl) h
  all_goals rfl

theorem bin_ok {op : BinOp} {t : TypeId} {x y x' y' v : Value} (hx : Rel β x x') (hy : Rel β y y') (h : abin P op t x y = some v) : ∃ v', (binOp op t x' y').run P w = .ok v' w ∧ Rel β v v' := by
  unfold abin at h
  split at h
  · rename_i k a k' b
    obtain rfl := hx.int_inv
    obtain rfl := hy.int_inv
    split at h
    · rename_i hk
      refine ⟨v, ?_, ?_⟩
      · cases op
        case shl =>
          simp only [aintOp] at h
          split at h
          · simp at h
          · rename_i hb
            obtain rfl := Option.some.inj h
            simp [binOp, Op.shift, hb]
        case shr =>
          simp only [aintOp] at h
          split at h
          · simp at h
          · rename_i hb
            obtain rfl := Option.some.inj h
            simp [binOp, Op.shift, hb]
        all_goals
          have hk' : k = k' := by rcases hk with hk | hk | hk <;> first | exact hk | exact absurd hk (by decide)
          subst hk'
          simp only [aintOp] at h
        case quo =>
          split at h
          · simp at h
          · rename_i hb
            obtain rfl := Option.some.inj h
            simp [binOp, Op.intDiv, hb]
        case rem =>
          split at h
          · simp at h
          · rename_i hb
            obtain rfl := Option.some.inj h
            simp [binOp, Op.intDiv, hb]
        all_goals
          obtain rfl := Option.some.inj h
        case eql => simp [binOp, Op.intCmp, int_eq_dec]
        case neq =>
          simp only [binOp, Op.intCmp, ne_eq, not_true_eq_false, if_false, Sem.run_pure]
          congr 2
          rw [bne, int_eq_dec]
          simp
        all_goals simp [binOp, Op.intArith, Op.intBits, Op.intCmp, Go.bits]
      · have hsc : scal v = true := by
          cases op <;> simp only [aintOp] at h <;> first
            | (obtain rfl := Option.some.inj h; rfl)
            | (split at h <;> first | (simp at h; done) | (obtain rfl := Option.some.inj h; rfl))
        exact .scal v hsc
    · simp at h
  · rename_i a b
    obtain rfl := hx.string_inv
    obtain rfl := hy.string_inv
    refine ⟨v, ?_, ?_⟩
    · cases op <;> simp only [astrOp] at h <;> first | (simp at h; done) | skip
      case add =>
        split at h
        · rename_i hle
          obtain rfl := Option.some.inj h
          have hmax : IntKind.i64.max = 9223372036854775807 := by decide
          simp only [binOp, Op.stringOp, hmax]
          rw [if_neg (by omega)]
          rfl
        · simp at h
      all_goals obtain rfl := Option.some.inj h
      case eql => simp only [binOp, Op.stringOp, str_eq_dec, Sem.run_pure]
      case neq =>
        simp only [binOp, Op.stringOp, str_eq_dec, Sem.run_pure]
        simp
      case lss => simp only [binOp, Op.stringOp, Sem.run_pure]
    · have hsc : scal v = true := by
        cases op <;> simp only [astrOp] at h <;> first
          | (obtain rfl := Option.some.inj h; rfl)
          | (split at h <;> first | (simp at h; done) | (obtain rfl := Option.some.inj h; rfl))
          | (simp at h; done)
      exact .scal v hsc
  · rename_i hni hns
    have main : ∀ r, aeq P 10000 t x y = some r → (∀ op', (op' = .eql ∨ op' = .neq) → (binOp op' t x' y').run P w = ((Op.equal t x' y').run P w).andThen fun b w' => .ok (.bool (if op' = .eql then b else !b)) w') := by
      intro r hr op' hop'
      obtain ⟨hu, hv⟩ := aeq_junk _ _ _ _ _ hr
      unfold binOp
      have nf : ∀ (k : FloatKind) (n : Nat), x ≠ .float k n := fun k n h0 => by
        subst h0
        unfold aeq at hr
        split at hr <;> first | (cases hr; done) | simp_all
      have nc : ∀ (k : FloatKind) (n m : Nat), x ≠ .complex k n m := fun k n m h0 => by
        subst h0
        unfold aeq at hr
        split at hr <;> first | (cases hr; done) | simp_all
      rcases hop' with rfl | rfl
      all_goals
        split
        all_goals first
          | (rename_i heq _ _; exact absurd heq (by decide))
          | (rename_i heq _; exact absurd heq (by decide))
          | (rename_i heq; exact absurd heq (by decide))
          | skip
      all_goals first
        | (exact absurd (hx.of_int hu) (fun h1 => hni _ _ _ _ h1 (hy.of_int hv)))
        | (exact absurd (hx.of_float hu) (nf _ _))
        | (exact absurd (hx.of_complex hu) (nc _ _ _))
        | (exact absurd (hx.of_string hu) (fun h1 => hns _ _ h1 (hy.of_string hv)))
        | (exact absurd (by assumption : BinOp.eql = BinOp.neq) (by decide))
        | (exact absurd (by assumption : BinOp.neq = BinOp.eql) (by decide))
        | (simp only [Sem.run_bind, Sem.run_pure]; rfl)
        | (exact (by assumption : BinOp.eql = BinOp.eql → False) rfl |>.elim)
        | (exact (by assumption : BinOp.neq = BinOp.neq → False) rfl |>.elim)
        | (exfalso; simp_all; done)
    cases op <;> simp only at h <;> first | (simp at h; done) | skip
    case eql =>
      obtain ⟨r, hr, rfl⟩ := Option.map_eq_some_iff.1 h
      refine ⟨.bool r, ?_, .scal _ rfl⟩
      rw [main r hr .eql (.inl rfl), show (Op.equal t x' y').run P w = .ok r w from eq_ok _ _ _ _ _ _ _ hx hy hr]
      rfl
    case neq =>
      obtain ⟨r, hr, rfl⟩ := Option.map_eq_some_iff.1 h
      refine ⟨.bool (!r), ?_, .scal _ rfl⟩
      rw [main r hr .neq (.inr rfl), show (Op.equal t x' y').run P w = .ok r w from eq_ok _ _ _ _ _ _ _ hx hy hr]
      rfl
end
end Go.Proofs.YtkgdkommahgakaaDoor.Abs

/- The abstract machine: what an operation does there, it does in every world that is as the abstract heap says. Part three: operations that make or write memory. -/
namespace Go.Proofs.YtkgdkommahgakaaDoor.Abs
open Go Go.RowKit
set_option linter.unusedVariables false
set_option linter.unusedSimpArgs false

section
variable {P : Program} {base G : Nat} {β : Map} {σ : Heap} {w : World}

theorem setAll_length : ∀ (vs cs : List Value) (o : Nat), (setAll cs o vs).length = cs.length
  | [], cs, o => rfl
  | v :: vs, cs, o => by rw [setAll, setAll_length vs]; simp
theorem setAll_rel : ∀ {vs vs' : List Value} {cs cs' : List Value} (o : Nat), RelL β vs vs' → RelL β cs cs' → RelL β (setAll cs o vs) (setAll cs' o vs')
  | _, _, _, _, o, .nil, h => h
  | _, _, _, _, o, .cons a b as bs h hs, h2 => by
    rw [setAll, setAll]
    exact setAll_rel (o + 1) hs (h2.set o h)
theorem setAll_get : ∀ (vs cs : List Value) (o i : Nat), o + vs.length ≤ cs.length → (setAll cs o vs)[i]? = if o ≤ i ∧ i < o + vs.length then vs[i - o]? else cs[i]?
  | [], cs, o, i, _ => by
    rw [setAll, if_neg (by simp)]
  | v :: vs, cs, o, i, h => by
    simp only [List.length_cons] at h
    rw [setAll, setAll_get vs (cs.set o v) (o + 1) i (by simp; omega)]
    simp only [List.length_cons]
    by_cases h1 : i = o
    · subst h1
      rw [if_neg (by omega), if_pos (by omega), List.getElem?_set_self (by omega)]
      simp
    · by_cases h2 : o + 1 ≤ i ∧ i < o + 1 + vs.length
      · rw [if_pos h2, if_pos (by omega)]
        rw [show i - o = (i - (o + 1)) + 1 by omega, List.getElem?_cons_succ]
      · rw [if_neg h2, if_neg (by omega), List.getElem?_set_ne (by omega)]

theorem foldl_setAll (off : Nat) : ∀ (l : List Value) (k : Nat) (cells : Array Value), ((l.zipIdx k).foldl (fun (cs : Array Value) (p : Value × Nat) => cs.setIfInBounds (off + p.2) p.1) cells).toList = setAll cells.toList (off + k) l
  | [], k, cells => rfl
  | v :: l, k, cells => by
    rw [List.zipIdx_cons, List.foldl_cons, foldl_setAll off l (k + 1), setAll]
    simp [Nat.add_assoc]

/-- Parts with their places. -/
inductive RelP (β : Map) : List (Nat × Value) → List (Nat × Value) → Prop
  | nil : RelP β [] []
  | cons (i : Nat) (a b : Value) (as bs : List (Nat × Value)) (h : Rel β a b) (hs : RelP β as bs) : RelP β ((i, a) :: as) ((i, b) :: bs)

theorem oneCells_junk {v : Value} (h : v.cells.all (·.oneCell') = true) : v ≠ junk := fun h0 => by
  subst h0
  simp [junk, Value.cells, Value.oneCell'] at h

theorem fill_ok (place : Nat → Option (Nat × Nat)) : ∀ {parts parts' : List (Nat × Value)} {cs r : List Value} {cs' : Array Value}, RelP β parts parts' → RelL β cs cs'.toList → afill place cs parts = some r →
    ∃ r', Instr.fill place cs' parts' = some r' ∧ RelL β r r'.toList
  | _, _, cs, r, cs', .nil, hc, h => by
    rw [afill] at h
    obtain rfl := Option.some.inj h
    exact ⟨cs', rfl, hc⟩
  | _, _, cs, r, cs', .cons i a b as bs hab hs, hc, h => by
    rw [afill] at h
    obtain ⟨⟨off, size⟩, hp, h⟩ := Option.bind_eq_some_iff.1 h
    split at h
    · rename_i hcond
      obtain ⟨h1, h2, h3⟩ := hcond
      have hcells := hab.cells (oneCells_junk h3)
      have hsz : b.cells.size = a.cells.size := by
        have := hcells.length
        simpa using this.symm
      rw [Instr.fill, hp]
      simp only
      rw [if_neg]
      · refine fill_ok place hs ?_ h
        have e := foldl_setAll off b.cells.toList 0 cs'
        have e2 : (b.cells.zipIdx.foldl (fun (cs : Array Value) (x : Value × Nat) => cs.setIfInBounds (off + x.2) x.1) cs').toList = setAll cs'.toList off b.cells.toList := by
          rw [← Array.foldl_toList, Array.toList_zipIdx]
          simpa using e
        show RelL β (setAll cs off a.cells.toList) (b.cells.zipIdx.foldl (fun (cs : Array Value) (x : Value × Nat) => cs.setIfInBounds (off + x.2) x.1) cs').toList
        rw [e2]
        exact setAll_rel off hcells hc
      · have hl := hc.length
        simp only [Array.length_toList] at hl
        simp only [Bool.or_eq_true, decide_eq_true_eq, not_or]
        simp only at h1 h2
        constructor
        · simp [hsz, h1]
        · omega
    · simp at h

theorem run_zero {t : TypeId} {z : Value} (h : tzero P t = some z) (w : World) : (zeroValue t).run P w = .ok z w := by
  unfold tzero at h
  obtain ⟨i, hi, hz⟩ := Option.bind_eq_some_iff.1 h
  unfold zeroValue
  simp only [Sem.run_bind, run_typeInfo w hi, Result.andThen_ok, hz, Sem.run_pure]
theorem info_zero {t : TypeId} {z : Value} (h : tzero P t = some z) : ∃ i, P.info? t = some i := by
  unfold tzero at h
  obtain ⟨i, hi, _⟩ := Option.bind_eq_some_iff.1 h
  exact ⟨i, hi⟩

theorem run_places (w : World) : ∀ (l : List Field), (∀ f ∈ l, (P.info? f.type).isSome = true) → (l.mapM fun (f : Field) => (do pure (f.offset, ← sizeOf f.type) : Sem (Nat × Nat))).run P w = .ok (l.map fun (f : Field) => (f.offset, P.cellsOf f.type)) w
  | [], _ => rfl
  | f :: l, h => by
    obtain ⟨i, hi⟩ := info_some (h f (by simp))
    rw [List.mapM_cons]
    simp only [Sem.run_bind, run_sizeOf w hi, Result.andThen_ok, Sem.run_pure, run_places w l (fun g hg => h g (by simp [hg])), List.map_cons]

theorem scal_all {c : Array Value} (h : c.all scal = true) : ∀ u ∈ c.toList, scal u = true := fun u hu =>
  Array.all_eq_true_iff_forall_mem.1 h u (by simpa using hu)

theorem build_ok {t : TypeId} {parts : List (Nat × Value)} {parts' : Array (Nat × Value)} {v : Value} (hp : RelP β parts parts'.toList) (h : abuild P t parts = some v) :
    ∃ v', (Instr.build t parts').run P w = .ok v' w ∧ Rel β v v' := by
  unfold abuild at h
  split at h
  · rename_i fs hu
    split at h
    · rename_i hall
      obtain ⟨z, hz0, h⟩ := Option.bind_eq_some_iff.1 h
      split at h
      case isFalse => simp at h
      rename_i hzs
      obtain ⟨cs, hcs, rfl⟩ := Option.map_eq_some_iff.1 h
      obtain ⟨r', hr', hrel⟩ := fill_ok (β := β) _ hp (RelL.scal (scal_all hzs)) hcs
      refine ⟨.agg r', ?_, .agg _ _ (by simpa using hrel)⟩
      unfold Instr.build
      simp only [Sem.run_bind, run_zero hz0, Result.andThen_ok, run_underlying hu, Sem.run_pure]
      have hpl : (fs.mapM fun (f : Field) => (do pure (f.offset, ← sizeOf f.type) : Sem (Nat × Nat))).run P w = .ok (fs.map fun (f : Field) => (f.offset, P.cellsOf f.type)) w := by
        rw [Array.mapM_eq_mapM_toList]
        simp only [Sem.run_map, run_places w fs.toList (fun f hf => by
          have := Array.all_eq_true_iff_forall_mem.1 hall f (by simpa using hf)
          exact this), Result.andThen_ok]
        congr 1
        apply Array.ext'
        simp
      rw [hpl]
      simp only [Result.andThen_ok]
      have hplace : (fun (i : Nat) => (fs.map fun (f : Field) => (f.offset, P.cellsOf f.type))[i]?) = (fun (i : Nat) => (fs[i]?).map fun (f : Field) => (f.offset, P.cellsOf f.type)) := by
        funext i
        simp
      rw [hplace, hr']
      rfl
    · simp at h
  · simp at h

theorem len_ok {argTypes : Array TypeId} {ty : TypeId} {args : List Value} {args' : Array Value} {v : Value} (ha : RelL β args args'.toList) (h : alen P argTypes args = some v) :
    ∃ v', (Builtin.len_ argTypes ty args').run P w = .ok v' w ∧ Rel β v v' := by
  unfold alen at h
  split at h
  · rename_i s h1 h2
    obtain ⟨t, ht, hu⟩ := Option.bind_eq_some_iff.1 h1
    obtain ⟨v', hv', hr⟩ := ha.get 0 _ h2
    obtain rfl := hr.string_inv
    obtain rfl := Option.some.inj h
    rw [Array.getElem?_toList] at hv'
    refine ⟨_, ?_, .scal _ rfl⟩
    unfold Builtin.len_
    simp only [ht, hv', Sem.run_bind, run_underlying hu, Result.andThen_ok, Sem.run_pure, goInt]
  · rename_i e a n c h1 h2
    obtain ⟨t, ht, hu⟩ := Option.bind_eq_some_iff.1 h1
    obtain ⟨v', hv', hr⟩ := ha.get 0 _ h2
    obtain rfl := Option.some.inj h
    rw [Array.getElem?_toList] at hv'
    refine ⟨.int .i64 n, ?_, .scal _ rfl⟩
    unfold Builtin.len_
    rcases hr.slc_inv with ⟨_, rfl, _, rfl⟩ | ⟨_, _, rfl, _, rfl⟩ | ⟨_, _, c', _, _, _, _, _, _, rfl⟩
    all_goals simp only [ht, hv', Sem.run_bind, run_underlying hu, Result.andThen_ok, Sem.run_pure, goInt]
  · simp at h
end
end Go.Proofs.YtkgdkommahgakaaDoor.Abs

/- The abstract machine: what an operation does there, it does in every world that is as the abstract heap says. Part four: new blocks, stores, appends. -/
namespace Go.Proofs.YtkgdkommahgakaaDoor.Abs
open Go Go.RowKit
set_option linter.unusedVariables false
set_option linter.unusedSimpArgs false

section
variable {P : Program} {base G : Nat} {β : Map} {σ : Heap} {w : World}

theorem rel_prefix {cells : List Value} {c : Array Value} (h : RelL β cells c.toList) : ∀ (i : Nat) (v : Value), cells[i]? = some v → ∃ v', c[i]? = some v' ∧ Rel β v v' := fun i v hv => by
  obtain ⟨v', h1, h2⟩ := h.get i v hv
  exact ⟨v', by rw [← Array.getElem?_toList]; exact h1, h2⟩

theorem flat_get (l : List Value) (h0 : 0 < l.length) : ∀ (n i : Nat), i < n * l.length → ((List.replicate n l).flatten)[i]? = l[i % l.length]?
  | 0, i, h => by simp at h
  | n + 1, i, h => by
    rw [List.replicate_succ, List.flatten_cons]
    by_cases hi : i < l.length
    · rw [List.getElem?_append_left hi, Nat.mod_eq_of_lt hi]
    · rw [List.getElem?_append_right (by omega), flat_get l h0 n (i - l.length) (by rw [Nat.add_mul, Nat.one_mul] at h; omega)]
      congr 1
      exact (Nat.mod_eq_sub_mod (by omega)).symm
theorem flat_length (l : List Value) (n : Nat) : ((List.replicate n l).flatten).length = n * l.length := by
  induction n with
  | zero => simp
  | succ n ih => rw [List.replicate_succ, List.flatten_cons, List.length_append, ih, Nat.succ_mul]; omega
/-- The cells of a row of zeros, as the model makes them. -/
theorem zeros_rel {z : Array Value} (hz : z.all scal = true) (h0 : 0 < z.size) {n m : Nat} (hnm : n ≤ m) :
    ∀ (i : Nat) (v : Value), ((List.replicate n z.toList).flatten)[i]? = some v → ∃ v', ((Array.range (m * z.size)).map (z[· % z.size]!))[i]? = some v' ∧ Rel β v v' := fun i v hv => by
  have hi := (List.getElem?_eq_some_iff.1 hv).1
  rw [flat_length] at hi
  rw [flat_get _ (by simpa using h0) n i hi] at hv
  simp only [Array.length_toList] at hi hv
  have hm : i < m * z.size := Nat.lt_of_lt_of_le hi (Nat.mul_le_mul_right _ hnm)
  refine ⟨v, ?_, .scal v ?_⟩
  · have hlt : i % z.size < z.size := Nat.mod_lt _ h0
    rw [Array.getElem?_map]
    rw [Array.getElem?_eq_getElem (by simpa using hm)]
    simp only [Array.getElem_range, Option.map_some]
    rw [Array.getElem?_toList, Array.getElem?_eq_getElem hlt] at hv
    rw [getElem!_pos z _ hlt]
    exact hv
  · exact scal_all hz v (List.mem_of_getElem? hv)

theorem scal_one {v : Value} (h : scal v = true) : v.oneCell' = true := by
  cases v <;> first | rfl | (simp [scal] at h)
theorem setAll_one : ∀ (vs cs : List Value) (o : Nat), (∀ v ∈ vs, v.oneCell' = true) → (∀ v ∈ cs, v.oneCell' = true) → ∀ v ∈ setAll cs o vs, v.oneCell' = true
  | [], cs, o, _, h => h
  | v :: vs, cs, o, h1, h => by
    rw [setAll]
    refine setAll_one vs _ _ (fun u hu => h1 u (by simp [hu])) fun u hu => ?_
    rcases List.mem_or_eq_of_mem_set hu with hu | rfl
    · exact h u hu
    · exact h1 _ (by simp)
theorem afill_one (pl : Nat → Option (Nat × Nat)) : ∀ (ps : List (Nat × Value)) (a b : List Value), afill pl a ps = some b → (∀ v ∈ a, v.oneCell' = true) → ∀ v ∈ b, v.oneCell' = true
  | [], a, b, h, ha => by rw [afill] at h; rw [← Option.some.inj h]; exact ha
  | (i, u) :: ps, a, b, h, ha => by
    rw [afill] at h
    obtain ⟨pp, _, h⟩ := Option.bind_eq_some_iff.1 h
    split at h
    · rename_i hc
      exact afill_one pl ps _ _ h (setAll_one _ _ _ (fun x hx => Array.all_eq_true_iff_forall_mem.1 hc.2.2 x (by simpa using hx)) ha)
    · simp at h
theorem flat_one {l : List Value} (h : ∀ v ∈ l, scal v = true) (n : Nat) : ∀ v ∈ (List.replicate n l).flatten, v.oneCell' = true := fun v hv => by
  obtain ⟨x, hx, hv⟩ := List.mem_flatten.1 hv
  rw [(List.mem_replicate.1 hx).2] at hv
  exact scal_one (h v hv)

/-- What an operation may leave: a value or nothing, and a world that is as the new heap says. -/
def Done (base G : Nat) (β : Map) (σ : Heap) (w : World) (σ' : Heap) (v : Value) (r : Result Next) : Prop :=
  ∃ v' w' β', (r = .ok (.value v') w' ∨ (r = .ok .skip w' ∧ v' = undef)) ∧ Rel β' v v' ∧ Sim base G β' σ' w' ∧ Step β σ w β' σ' w'

theorem done_pure (hs : Sim base G β σ w) {v : Value} {r : Result Next} (h : ∃ v', r = .ok (.value v') w ∧ Rel β v v') : Done base G β σ w σ v r := by
  obtain ⟨v', h1, h2⟩ := h
  exact ⟨v', w, β, .inl h1, h2, hs, Step.refl _ _ _⟩

theorem done_new (hs : Sim base G β σ w) {cells : List Value} {sz : Nat} {c : Array Value} {e : TypeId} (hf : ∀ n, σ.length ≤ n → n < (σ ++ [some (⟨cells, true, sz⟩ : Blk)]).length → β n = none)
    {r : Result Next} {v : Value} {v' : Value} (hr : r = .ok (.value v') { w with heap := w.heap.push (.cells c e) })
    (hl : cells.length ≤ c.size) (hone : ∀ v ∈ cells, v.oneCell' = true) (hc : ∀ (i : Nat) (v : Value), cells[i]? = some v → ∃ v', c[i]? = some v' ∧ Rel β v v')
    (hv : ∀ β' : Map, β' σ.length = some ⟨w.heap.size, 0, c.size, true, sz⟩ → Rel β' v v') : Done base G β σ w (σ ++ [some ⟨cells, true, sz⟩]) v r := by
  obtain ⟨h1, h2⟩ := sim_new (sz := sz) (cells := cells) (c := c) (e := e) (w' := { w with heap := w.heap.push (.cells c e) }) hs (hf _ (Nat.le_refl _) (by simp)) rfl rfl rfl rfl hl hone hc
  exact ⟨v', _, _, .inl hr, hv _ (Map.upd_same _ _ _), h1, h2⟩

theorem box_done (hs : Sim base G β σ w) {t : TypeId} {x x' : Value} (hx : Rel β x x') (hone : x.cells.all (·.oneCell') = true) (hf : ∀ n, σ.length ≤ n → n < (σ ++ [some (⟨x.cells.toList, true, 0⟩ : Blk)]).length → β n = none) :
    Done base G β σ w (σ ++ [some ⟨x.cells.toList, true, 0⟩]) (newPtr σ) (((Instr.box t x').run P w).andThen fun v w' => .ok (.value v) w') := by
  have hc := hx.cells (oneCells_junk hone)
  refine done_new (c := x'.cells) (e := t) hs hf (v' := .pointer (some ⟨w.heap.size, 0, none⟩)) ?_ (by have := hc.length; simp at this; simp; omega) (fun u hu => Array.all_eq_true_iff_forall_mem.1 hone u (by simpa using hu)) (rel_prefix hc) (fun β' h => .ptr _ _ _ h)
  unfold Instr.box newVar newRow
  simp only [Sem.run_bind, run_newObj, Result.andThen_ok, Sem.run_pure]

theorem alloc_done (hs : Sim base G β σ w) {t : TypeId} {z : Value} (hz : tzero P t = some z) (hsc : z.cells.all scal = true) (hf : ∀ n, σ.length ≤ n → n < (σ ++ [some (⟨z.cells.toList, true, 0⟩ : Blk)]).length → β n = none) :
    Done base G β σ w (σ ++ [some ⟨z.cells.toList, true, 0⟩]) (newPtr σ) (((Instr.alloc t true (.tuple #[])).run P w).andThen fun v w' => .ok (.value v) w') := by
  refine done_new (c := z.cells) (e := t) hs hf (v' := .pointer (some ⟨w.heap.size, 0, none⟩)) ?_ (by simp) (fun u hu => scal_one (scal_all hsc u hu)) (rel_prefix (RelL.scal (scal_all hsc))) (fun β' h => .ptr _ _ _ h)
  unfold Instr.alloc newVar newRow
  simp only [Sem.run_bind, run_zero hz, run_newObj, Result.andThen_ok, Sem.run_pure]

theorem buildSlice_done (hs : Sim base G β σ w) {t : TypeId} {len : Nat} {parts : List (Nat × Value)} {parts' : Array (Nat × Value)} {v : Value} {σ' : Heap} (hp : RelP β parts parts'.toList)
    (h : abuildSlice P σ t len parts = some (v, σ')) (hf : ∀ n, σ.length ≤ n → n < σ'.length → β n = none) :
    Done base G β σ w σ' v (((Instr.buildSlice t len parts').run P w).andThen fun v w' => .ok (.value v) w') := by
  unfold abuildSlice at h
  split at h
  · rename_i e hu
    split at h
    · rename_i hc
      obtain ⟨h1, h2⟩ := hc
      obtain ⟨ie, hie⟩ := info_some h1
      obtain ⟨z, hz, h⟩ := Option.bind_eq_some_iff.1 h
      split at h
      · rename_i hc
        obtain ⟨h3, h4, h5⟩ := hc
        obtain ⟨cs, hcs, h⟩ := Option.map_eq_some_iff.1 h
        simp only [Prod.mk.injEq] at h
        obtain ⟨rfl, rfl⟩ := h
        have h0 : 0 < z.cells.size := by omega
        have hzl : RelL β (List.replicate len z.cells.toList).flatten ((Array.range (len * P.cellsOf e)).map (z.cells[· % z.cells.size]!)).toList := by
          refine RelL.of_get (by rw [flat_length]; simp [h3]) fun i v v' hv hv' => ?_
          obtain ⟨v2, hv2, hr⟩ := zeros_rel (β := β) h5 h0 (Nat.le_refl len) i v hv
          rw [h3] at hv2
          rw [Array.getElem?_toList, h3, hv2] at hv'
          exact Option.some.inj hv' ▸ hr
        obtain ⟨r', hr', hrel⟩ := fill_ok (β := β) _ hp hzl hcs
        have hsz : r'.size = len * P.cellsOf e := by
          have e1 := hrel.length
          have e2 : cs.length = len * P.cellsOf e := by
            have : ∀ (ps : List (Nat × Value)) (a b : List Value) (pl), afill pl a ps = some b → b.length = a.length := by
              intro ps
              induction ps with
              | nil => intro a b pl h; rw [afill] at h; rw [Option.some.inj h]
              | cons q ps ih =>
                intro a b pl h
                obtain ⟨i, u⟩ := q
                rw [afill] at h
                obtain ⟨pp, _, h⟩ := Option.bind_eq_some_iff.1 h
                split at h
                · rw [ih _ _ _ h, setAll_length]
                · simp at h
            rw [this _ _ _ _ hcs, flat_length]
            simp [h3]
          simp at e1
          omega
        refine done_new (c := r') (e := e) hs hf (v' := .slice (some ⟨w.heap.size, 0, none⟩) len len) ?_ (by have := hrel.length; simp at this; omega) (afill_one _ _ _ _ hcs (flat_one (scal_all h5) len)) (rel_prefix hrel) (fun β' hb => ?_)
        · unfold Instr.buildSlice
          simp only [Sem.run_bind, run_underlying hu, Result.andThen_ok, run_sizeOf w hie]
          rw [if_neg (by omega)]
          by_cases hl0 : len * P.cellsOf e = 0
          · rw [if_pos hl0]
            have hmap : ((Array.range (len * P.cellsOf e)).map fun x => (#[] : Array Value)[x % (#[] : Array Value).size]!) = (Array.range (len * P.cellsOf e)).map (z.cells[· % z.cells.size]!) := by
              rw [hl0]; simp
            simp only [Sem.run_bind, Sem.run_pure, Result.andThen_ok, hmap, hr', newRow, run_newObj]
          · rw [if_neg hl0]
            simp only [Sem.run_bind, run_zero hz, Sem.run_pure, Result.andThen_ok, hr', newRow, run_newObj]
        · exact .slc σ.length 0 len len len ⟨w.heap.size, 0, r'.size, true, P.cellsOf e⟩ hb (Nat.le_refl _) (fun h => h) (fun _ => by show 0 + len * P.cellsOf e ≤ r'.size; omega)
      · simp at h
    · simp at h
  · simp at h

theorem makeSlice_done (hs : Sim base G β σ w) {t : TypeId} {n m n' m' : Value} {v : Value} {σ' : Heap} (hn : Rel β n n') (hm : Rel β m m')
    (h : amakeSlice P σ t n m = some (v, σ')) (hf : ∀ n, σ.length ≤ n → n < σ'.length → β n = none) :
    Done base G β σ w σ' v (((Instr.makeSlice t n' m').run P w).andThen fun v w' => .ok (.value v) w') := by
  unfold amakeSlice at h
  split at h
  · rename_i e k1 n k2 m hu
    obtain rfl := hn.int_inv
    obtain rfl := hm.int_inv
    split at h
    · rename_i hc
      obtain ⟨h1, h2, h3, h3b, h4⟩ := hc
      obtain ⟨ie, hie⟩ := info_some h1
      obtain ⟨z, hz, h⟩ := Option.bind_eq_some_iff.1 h
      split at h
      · rename_i hc
        obtain ⟨h5, h6, h7⟩ := hc
        simp only [Option.some.injEq, Prod.mk.injEq] at h
        obtain ⟨rfl, rfl⟩ := h
        have h0 : 0 < z.cells.size := by omega
        have hB : P.bytesOf e = ie.bytes := by simp [Program.bytesOf, hie]
        rw [hB] at h4
        have hw : ∀ x : Int, 0 ≤ x → x ≤ 140737488355328 → IntKind.i64.wrap x = x := fun x hx hx2 => by
          simp only [IntKind.wrap, IntKind.bits, IntKind.signed]
          simp
          omega
        have hnm : n.toNat ≤ m.toNat := by omega
        have hmc : n.toNat * P.cellsOf e ≤ m.toNat * P.cellsOf e := Nat.mul_le_mul_right _ hnm
        refine done_new (c := (Array.range (m.toNat * z.cells.size)).map (z.cells[· % z.cells.size]!)) (e := e) hs hf (v' := .slice (some ⟨w.heap.size, 0, none⟩) n.toNat m.toNat) ?_ (by rw [flat_length]; simp; rw [h5]; exact hmc) (flat_one (scal_all h7) _) (zeros_rel h7 h0 hnm) (fun β' hb => ?_)
        · unfold Instr.makeSlice
          simp only [Sem.run_bind, run_underlying hu, Result.andThen_ok, asInt, asIntOf, Sem.run_pure, run_typeInfo w hie, hw n h2 (by omega), hw m (by omega) h3b]
          have hnb : (ie.bytes : Int) * n ≤ ie.bytes * m := Int.mul_le_mul_of_nonneg_left h3 (by omega)
          have hmb : (ie.bytes : Int) * m ≤ 140737488355328 := by rw [Int.mul_comm]; exact h4
          have e1 : (decide (m < 0) || decide ((ie.bytes : Int) * m > 2 ^ 48) || decide (n < 0) || decide (n > m)) = false := by
            simp only [Bool.or_eq_false_iff, decide_eq_false_iff_not]
            have h48 : (2 : Int) ^ 48 = 281474976710656 := by decide
            refine ⟨⟨⟨by omega, by omega⟩, by omega⟩, by omega⟩
          rw [if_neg (by rw [e1]; decide)]
          simp only [Sem.run_bind, run_askRoom, Result.andThen_ok, run_sizeOf w hie]
          by_cases hz0 : m.toNat * P.cellsOf e = 0
          · rw [if_pos hz0]
            have hmap : ((Array.range (m.toNat * P.cellsOf e)).map fun x => (#[] : Array Value)[x % (#[] : Array Value).size]!) = (Array.range (m.toNat * z.cells.size)).map (z.cells[· % z.cells.size]!) := by
              rw [h5, hz0]; simp
            simp only [Sem.run_bind, Sem.run_pure, Result.andThen_ok, hmap, newRow, run_newObj]
          · rw [if_neg hz0]
            simp only [Sem.run_bind, run_zero hz, Sem.run_pure, Result.andThen_ok, newRow, run_newObj, h5]
        · refine .slc σ.length 0 n.toNat _ m.toNat _ hb hnm (fun h => ?_) (fun _ => ?_)
          · split at h <;> omega
          · show 0 + m.toNat * P.cellsOf e ≤ _
            simp [h5]
      · simp at h
    · simp at h
  · simp at h

/-- A run of stores into a block that is not frozen. -/
theorem run_stores (g : Nat) (e : TypeId) (frz : Nat × Nat) (hfr : frz.2 ≤ frz.1) : ∀ (vs : List Value) (o i : Nat) (c : Array Value) (w : World), w.heap[g]? = some (.cells c e frz) → o + i + vs.length ≤ c.size → (∀ v ∈ vs, v.oneCell' = true) →
    ∃ w', (storeCells ⟨g, o, none⟩ vs i).run P w = .ok () w' ∧ w'.heap[g]? = some (.cells (setAll c.toList (o + i) vs).toArray e frz) ∧ (∀ k, k ≠ g → w'.heap[k]? = w.heap[k]?) ∧ w'.heap.size = w.heap.size ∧
      w'.os = w.os ∧ w'.tape = w.tape ∧ w'.output = w.output
  | [], o, i, c, w, hg, _, _ => ⟨w, rfl, by rw [setAll]; simpa using hg, fun _ _ => rfl, rfl, rfl, rfl, rfl⟩
  | v :: vs, o, i, c, w, hg, hl, h1 => by
    simp only [List.length_cons] at hl
    have hcell : w.cell? ⟨g, o + i, none⟩ = some c[o + i] := by
      simp only [World.cell?, hg]
      simp [Array.getElem?_eq_getElem (show o + i < c.size by omega)]
    have hfz : w.frozen? ⟨g, o + i, none⟩ = false := by
      simp only [World.frozen?, hg]
      simp only [Bool.and_eq_false_iff, decide_eq_false_iff_not]
      omega
    have hlt : g < w.heap.size := (Array.getElem?_eq_some_iff.1 hg).1
    have hg1 : (w.setCell ⟨g, o + i, none⟩ v).heap[g]? = some (.cells (c.setIfInBounds (o + i) v) e frz) := by
      simp [World.setCell, Array.getElem?_modify, hg]
    obtain ⟨w', hr, h2, h3, h4, h5, h6, h7⟩ := run_stores g e frz hfr vs o (i + 1) (c.setIfInBounds (o + i) v) (w.setCell ⟨g, o + i, none⟩ v) hg1 (by simp; omega) (fun u hu => h1 u (by simp [hu]))
    refine ⟨w', ?_, ?_, fun k hk => ?_, ?_, h5, h6, h7⟩
    · unfold storeCells
      simp only [Sem.run_bind, addr_add]
      rw [run_store P w _ v _ (h1 v (by simp)), hcell]
      simp only [hfz, Bool.false_eq_true, if_false, Result.andThen_ok]
      exact hr
    · rw [h2, setAll]
      simp [Nat.add_assoc]
    · rw [h3 k hk]
      simp only [World.setCell, Array.getElem?_modify]
      rw [if_neg (fun h => hk h.symm)]
    · rw [h4]
      simp [World.setCell]

theorem rel_oneCell {v v' : Value} (h : Rel β v v') (h1 : v.oneCell' = true) : v'.oneCell' = true := by
  cases h with
  | any => simp [junk, Value.oneCell'] at h1
  | scal => exact h1
  | agg => simp [Value.oneCell'] at h1
  | tuple => simp [Value.oneCell'] at h1
  | _ => rfl
theorem relL_oneCell : ∀ {a b : List Value}, RelL β a b → (∀ v ∈ a, v.oneCell' = true) → ∀ v ∈ b, v.oneCell' = true
  | _, _, .nil, _ => fun v hv => by simp at hv
  | _, _, .cons a b as bs h hs, h1 => fun v hv => by
    rcases List.mem_cons.1 hv with rfl | hv
    · exact rel_oneCell h (h1 a (by simp))
    · exact relL_oneCell hs (fun u hu => h1 u (by simp [hu])) v hv

theorem store_done (hs : Sim base G β σ w) {t : TypeId} {a a' v v' : Value} {σ' : Heap} (ha : Rel β a a') (hv : Rel β v v') (h : astore P σ t a v = some σ') :
    Done base G β σ w σ' undef (((Instr.storeAt t a' v').run P w).andThen fun _ w' => .ok .skip w') := by
  unfold astore at h
  split at h
  · rename_i n o
    obtain ⟨cb, hcb, _, rfl⟩ := ha.ptr_inv
    obtain ⟨b, hb, h⟩ := Option.bind_eq_some_iff.1 h
    split at h
    · rename_i hc
      obtain ⟨h1, h2, h3, h4, h5⟩ := hc
      obtain rfl := Option.some.inj h
      obtain ⟨i, hi⟩ := info_some h2
      have hh := hs.holds n cb b hcb hb
      obtain ⟨c, e, frz, hobj, k1, k2, k3⟩ := hh.obj
      have hcells := hv.cells (oneCells_junk h5)
      have hsz : v'.cells.size = v.cells.size := by have := hcells.length; simpa using this.symm
      have hone : ∀ u ∈ v'.cells.toList, u.oneCell' = true := relL_oneCell hcells (fun u hu => Array.all_eq_true_iff_forall_mem.1 h5 u (by simpa using hu))
      have hlen := hh.len
      obtain ⟨w', hr, h6, h7, h8, h9, h10, h11⟩ := run_stores (P := P) cb.blk e frz (k2 (hh.own.trans h1)) v'.cells.toList (cb.off + o) 0 c w hobj (by simp; omega) hone
      have key : ∀ (i : Nat) (u : Value), (setAll b.cells o v.cells.toList)[i]? = some u → ∃ u', (setAll c.toList (cb.off + o + 0) v'.cells.toList).toArray[cb.off + i]? = some u' ∧ Rel β u u' := by
        intro i u hu
        rw [setAll_get _ _ _ _ (by simp; omega)] at hu
        rw [List.getElem?_toArray, setAll_get _ _ _ _ (by simp; omega)]
        simp only [Array.length_toList] at hu ⊢
        by_cases hin : o ≤ i ∧ i < o + v.cells.size
        · rw [if_pos hin] at hu
          rw [if_pos (by omega)]
          obtain ⟨u', hu', hru⟩ := hcells.get _ _ hu
          exact ⟨u', by rw [show cb.off + i - (cb.off + o + 0) = i - o by omega]; exact hu', hru⟩
        · rw [if_neg hin] at hu
          rw [if_neg (by omega)]
          obtain ⟨u', hu', hru⟩ := k3 i u hu
          exact ⟨u', by rw [Array.getElem?_toList]; exact hu', hru⟩
      obtain ⟨s1, s2⟩ := sim_store (w' := w') hs hb hcb h1 (cells := setAll b.cells o v.cells.toList) (setAll_length _ _ _) (setAll_one _ _ _ (fun u hu => Array.all_eq_true_iff_forall_mem.1 h5 u (by simpa using hu)) hh.one) hobj h6 (by simp [setAll_length]) h7 h8 h9 h10 h11 key
      refine ⟨undef, w', β, .inr ⟨?_, rfl⟩, rel_undef _, s1, s2⟩
      unfold Instr.storeAt storeVar
      simp only [Sem.run_bind, Instr.sureAddr, Sem.run_pure, Result.andThen_ok, run_sizeOf w hi]
      rw [if_neg (by simp [hsz, h3])]
      have hr' := hr
      simp only [Sem.run_bind, Sem.run_pure, Result.andThen_ok, hr']
    · simp at h
  · simp at h
end
end Go.Proofs.YtkgdkommahgakaaDoor.Abs

/- The abstract machine: what an operation does there, it does in every world that is as the abstract heap says. Part five: append; all operations. -/
namespace Go.Proofs.YtkgdkommahgakaaDoor.Abs
open Go Go.RowKit
set_option linter.unusedVariables false
set_option linter.unusedSimpArgs false

section
variable {P : Program} {base G : Nat} {β : Map} {σ : Heap} {w : World}

theorem Holds.of_heap {cb : CB} {b : Blk} {w1 : World} (he : w1.heap = w.heap) (h : Holds β cb b w) : Holds β cb b w1 := by
  obtain ⟨c, e, frz, h1, h2⟩ := h.obj
  exact ⟨⟨c, e, frz, by rw [he]; exact h1, h2⟩, h.len, h.own, h.sz, h.one⟩
theorem Sim.of_heap {w1 : World} (he : w1.heap = w.heap) (h : Sim base G β σ w) : Sim base G β σ w1 :=
  ⟨by rw [he]; exact h.size, fun n cb b h1 h2 => (h.holds n cb b h1 h2).of_heap he, h.ge, h.disj, h.glob⟩

theorem src_ok (hs : Sim base G β σ w) {sz m : Nat} {cells : List Value} {x x' : Value} (hx : Rel β x x') (h : asrc σ sz x = some (m, cells)) :
    (∀ w1 : World, (Builtin.lenOf x').run P w1 = .ok m w1) ∧ cells.length = m * sz ∧ (∀ v ∈ cells, v.oneCell' = true) ∧ ∃ arr, (∀ w1 : World, w1.heap = w.heap → (Builtin.firstCells sz m x').run P w1 = .ok arr w1) ∧ RelL β cells arr.toList := by
  unfold asrc at h
  split at h
  · obtain ⟨rfl, rfl⟩ := Prod.mk.inj (Option.some.inj h)
    rcases hx.slc_inv with ⟨_, _, _, rfl⟩ | ⟨_, _, _, y, rfl⟩ | ⟨n, o, c', cb, _, hcb, _, _, _, rfl⟩
    · exact ⟨fun _ => rfl, by simp, fun v hv => by simp at hv, #[], fun _ _ => rfl, .nil⟩
    · refine ⟨fun _ => rfl, by simp, fun v hv => by simp at hv, #[], fun w1 _ => ?_, .nil⟩
      cases y with
      | none => rfl
      | some a =>
        unfold Builtin.firstCells
        rw [Nat.zero_mul]
        rfl
    · refine ⟨fun _ => rfl, by simp, fun v hv => by simp at hv, #[], fun w1 _ => ?_, .nil⟩
      unfold Builtin.firstCells
      rw [Nat.zero_mul]
      rfl
  · rename_i n o len c hne
    obtain ⟨b, hb, h⟩ := Option.bind_eq_some_iff.1 h
    split at h
    · rename_i hl
      obtain ⟨rfl, rfl⟩ := Prod.mk.inj (Option.some.inj h)
      rcases hx.slc_inv with ⟨h0, _⟩ | ⟨_, _, h0, _⟩ | ⟨n', o', c', cb, he, hcb, h1, h2, h3, rfl⟩
      · simp at h0
      · subst h0
        exact (hne rfl).elim
      · simp only [Option.some.injEq, Addr.mk.injEq] at he
        obtain ⟨rfl, rfl, _⟩ := he
        have hh := hs.holds n cb b hcb hb
        obtain ⟨cs, hcs, hr, hcell⟩ := hh.cells hl
        refine ⟨fun _ => rfl, by rw [List.length_take, List.length_drop]; omega, fun v hv => hh.one v (List.mem_of_mem_drop (List.mem_of_mem_take hv)), cs.toArray, fun w1 hw1 => ?_, by simpa using hr⟩
        unfold Builtin.firstCells
        have := run_loadCells_list (P := P) w1 _ cs (fun j v hj => by
          have := hcell j v hj
          unfold World.cell? at this ⊢
          rw [hw1]
          exact this)
        rw [hcs] at this
        exact this
    · simp at h
  · rename_i s
    obtain rfl := hx.string_inv
    split at h
    · rename_i hsz
      subst hsz
      obtain ⟨rfl, rfl⟩ := Prod.mk.inj (Option.some.inj h)
      refine ⟨fun _ => rfl, ?_, fun v hv => ?_, s.data.map fun b => .int .u8 b.toNat, fun w1 _ => ?_, ?_⟩
      · simp
      · obtain ⟨b, _, rfl⟩ := List.mem_map.1 hv
        rfl
      · have : s.extract 0 s.size = s := ByteArray.extract_zero_size (b := s)
        show Result.ok ((s.extract 0 s.size).data.map fun b => Value.int .u8 b.toNat) w1 = _
        rw [this]
      · rw [Array.toList_map]
        exact RelL.scal fun v hv => by
          obtain ⟨b, _, rfl⟩ := List.mem_map.1 hv
          rfl
    · simp at h
  · simp at h

theorem cap_bound (need old : Nat) (h : old < need) : 4 * Builtin.nextslicecap need old ≤ 5 * need + 2048 := by
  have grow : ∀ (r c : Nat), 4 * c ≤ 5 * need + 768 → 4 * Builtin.growBy need r c ≤ 5 * need + 768 := by
    intro r
    induction r with
    | zero => intro c h1; unfold Builtin.growBy; omega
    | succ r ih =>
      intro c h1
      unfold Builtin.growBy
      split
      · omega
      · exact ih _ (by omega)
  unfold Builtin.nextslicecap
  split
  · omega
  · split
    · omega
    · have := grow 4 old (by omega)
      omega

theorem newCap_ge (need : Nat) (old : Nat) (e : TypeId) (t : Nat) : need ≤ (Question.appendCap need old e).cut t := by
  simp only [Question.cut]
  omega

/-- An append that makes a new row. -/
theorem run_append_new {t0 t1 e ty : TypeId} {xt : TypeDesc} {ie : TypeInfo} {z : Value} {x' : Value} {y : Option Addr} {len c' m : Nat} {old new : Array Value} (hu0 : P.underlying t0 = some (.slice e)) (hu1 : P.underlying t1 = some xt) (hxt : (∃ e', xt = .slice e') ∨ xt = .string) (hie : P.info? e = some ie) (hz : tzero P e = some z)
    (hb0 : 0 < P.bytesOf e) (hlen : ∀ w : World, (Builtin.lenOf x').run P w = .ok m w) (hnew : ∀ w1 : World, w1.heap = w.heap → (Builtin.firstCells (P.cellsOf e) m x').run P w1 = .ok new w1)
    (hold : ∀ w1 : World, w1.heap = w.heap → (Builtin.firstCells (P.cellsOf e) len (.slice y len c')).run P w1 = .ok old w1) (hneed : c' < len + m) (hlim : (len + m + 410) * P.bytesOf e ≤ 225179981368524) :
    ∃ N, len + m ≤ N ∧ (Builtin.append_ #[t0, t1] ty #[.slice y len c', x']).run P w = .ok (.slice (some ⟨w.heap.size, 0, none⟩) (len + m) N) { w with heap := w.heap.push (.cells (old ++ new ++ Builtin.zeroCells z.cells (N - (len + m))) e), drawn := w.drawn + 1 } := by
  refine ⟨(Question.appendCap (len + m) c' e).cut (w.tape w.drawn (.appendCap (len + m) c' e)), newCap_ge _ _ _ _, ?_⟩
  have hB : P.bytesOf e = ie.bytes := by simp [Program.bytesOf, hie]
  have hcap := cap_bound (len + m) c' hneed
  have hcap2 : Builtin.nextslicecap (len + m) c' * ie.bytes ≤ 2 ^ 48 := by
    rw [hB] at hlim
    have h4 := Nat.mul_le_mul_right ie.bytes hcap
    rw [Nat.mul_assoc] at h4
    have h5 : (5 * (len + m) + 2048) * ie.bytes ≤ 5 * ((len + m + 410) * ie.bytes) := by
      rw [← Nat.mul_assoc]
      exact Nat.mul_le_mul_right _ (by omega)
    omega
  have hw1 : ({ w with drawn := w.drawn + 1 } : World).heap = w.heap := rfl
  rcases hxt with ⟨e', rfl⟩ | rfl
  all_goals
    unfold Builtin.append_
    simp only [List.getElem?_toArray, List.getElem?_cons_zero, List.getElem?_cons_succ, Sem.run_bind, run_underlying hu0, run_underlying hu1, Result.andThen_ok, run_sizeOf w hie, Sem.run_pure, Bool.false_eq_true, if_false, Bool.not_false, if_true, hlen]
    rw [if_neg (by omega)]
    simp only [Sem.run_bind, run_typeInfo w hie, Result.andThen_ok]
    rw [if_neg (by rw [hB] at hb0; simp; omega)]
    simp only [Sem.run_bind, run_typeInfo w hie, Result.andThen_ok]
    rw [if_neg (by omega)]
    simp only [Sem.run_bind, run_choose, Question.forced, Bool.false_eq_true, if_false, Result.andThen_ok, run_typeInfo _ hie, run_askRoom, hold _ hw1, Bool.not_false, if_true, hnew _ hw1, run_zero hz, newRow, run_newObj, Sem.run_pure]

theorem run_append_in {t0 t1 e ty : TypeId} {xt : TypeDesc} {ie : TypeInfo} {x' : Value} {y : Option Addr} {len c' m : Nat} {new : Array Value} {w1 : World} (hu0 : P.underlying t0 = some (.slice e)) (hu1 : P.underlying t1 = some xt) (hxt : (∃ e', xt = .slice e') ∨ xt = .string) (hie : P.info? e = some ie)
    (hlen : ∀ w : World, (Builtin.lenOf x').run P w = .ok m w) (hnew : (Builtin.firstCells (P.cellsOf e) m x').run P w = .ok new w) (hneed : len + m ≤ c')
    (hstore : match y with | some a => (storeCells (a.add (len * P.cellsOf e)) new.toList).run P w = .ok () w1 | none => w1 = w) :
    (Builtin.append_ #[t0, t1] ty #[.slice y len c', x']).run P w = .ok (.slice y (len + m) c') w1 := by
  rcases hxt with ⟨e', rfl⟩ | rfl
  all_goals
    unfold Builtin.append_
    simp only [List.getElem?_toArray, List.getElem?_cons_zero, List.getElem?_cons_succ, Sem.run_bind, run_underlying hu0, run_underlying hu1, Result.andThen_ok, run_sizeOf w hie, Sem.run_pure, Bool.false_eq_true, if_false, hlen]
    rw [if_pos hneed]
    simp only [Bool.not_false, if_true, Sem.run_bind, hnew, Result.andThen_ok]
    cases y with
    | none =>
      simp only at hstore
      subst hstore
      rfl
    | some a =>
      simp only at hstore
      simp only [Sem.run_bind, hstore, Result.andThen_ok, Sem.run_pure]

/-- A dead name, and nothing else. -/
theorem sim_kill (hs : Sim base G β σ w) (n : Nat) : Sim base G β (σ.set n none) w := by
  have lk : ∀ m x, look (σ.set n none) m = some x → look σ m = some x := fun m x h => by
    by_cases hmn : m = n
    · subst hmn
      rcases Nat.lt_or_ge m σ.length with h' | h'
      · rw [look_set_eq h'] at h; simp at h
      · rw [List.set_eq_of_length_le h'] at h; exact h
    · rw [look_set_ne hmn] at h; exact h
  exact ⟨hs.size, fun m cb x h1 h2 => hs.holds m cb x h1 (lk m x h2), fun m cb x h1 h2 => hs.ge m cb x h1 (lk m x h2), fun m k cb1 cb2 x1 x2 h0 h1 h2 h3 h4 => hs.disj m k cb1 cb2 x1 x2 h0 h1 h2 (lk m x1 h3) (lk k x2 h4),
    hs.glob⟩

/-- A new name that stands nowhere: it is empty. -/
theorem sim_empty (hs : Sim base G β σ w) (hf : β σ.length = none) (sz : Nat) : Sim base G β (σ ++ [some ⟨[], true, sz⟩]) w ∧ Step β σ w β (σ ++ [some ⟨[], true, sz⟩]) w := by
  have lk : ∀ m x cb, β m = some cb → look (σ ++ [some ⟨[], true, sz⟩]) m = some x → look σ m = some x := fun m x cb hb h => by
    rcases look_append_some h with ⟨_, h⟩ | ⟨rfl, _⟩
    · exact h
    · rw [hf] at hb; simp at hb
  refine ⟨⟨hs.size, fun m cb x h1 h2 => hs.holds m cb x h1 (lk m x cb h1 h2), fun m cb x h1 h2 => hs.ge m cb x h1 (lk m x cb h1 h2), fun m k cb1 cb2 x1 x2 h0 h1 h2 h3 h4 => hs.disj m k cb1 cb2 x1 x2 h0 h1 h2 (lk m x1 _ h1 h3) (lk k x2 _ h2 h4), hs.glob⟩,
    ⟨by simp, fun n hn h => by rw [look_append_lt hn]; exact h, fun n h1 h2 => by have : n = σ.length := by simp at h2; omega
                                                                                  rw [this]; exact hf, fun _ _ h => h, fun _ _ h => .inl h, Nat.le_refl _, rfl, rfl, rfl, fun _ _ _ => rfl⟩⟩

theorem step_kill {n : Nat} {o : Option Blk} {β' : Map} {w' : World} (h : Step β (σ.set n none) w β' ((σ.set n none) ++ [o]) w') : Step β σ w β' ((σ.set n none) ++ [o]) w' := by
  have hl : (σ.set n none).length = σ.length := by simp
  have lk : ∀ m x, look (σ.set n none) m = some x → look σ m = some x := fun m x h => by
    by_cases hmn : m = n
    · subst hmn
      rcases Nat.lt_or_ge m σ.length with h' | h'
      · rw [look_set_eq h'] at h; simp at h
      · rw [List.set_eq_of_length_le h'] at h; exact h
    · rw [look_set_ne hmn] at h; exact h
  refine ⟨by simp, fun m hm h0 => ?_, fun m h1 h2 => h.fresh m (by rw [hl]; exact h1) h2, h.sub, fun m cb hm => ?_, h.size, h.os, h.tape, h.output, fun k hk hh => h.frame k hk fun m x cb h1 => hh m x cb (lk m x h1)⟩
  · refine h.dead m (by rw [hl]; exact hm) ?_
    by_cases hmn : m = n
    · subst hmn; rw [look_set_eq hm]
    · rw [look_set_ne hmn]; exact h0
  · rcases h.dom m cb hm with h1 | ⟨h1, h2, h3, h4, h5⟩
    · exact .inl h1
    · refine .inr ⟨h1, by rw [hl] at h2; exact h2, h3, h4, ?_⟩
      rcases h5 with h5 | ⟨k, x, ck, h6, h7⟩
      · exact .inl h5
      · exact .inr ⟨k, x, ck, lk k x h6, h7⟩

theorem append_done (hs : Sim base G β σ w) {argTypes : Array TypeId} {ty : TypeId} (hat : argTypes.size = 2) {s s' x x' v : Value} {σ' : Heap} (hrs : Rel β s s') (hrx : Rel β x x')
    (h : aappend P σ argTypes s x = some (v, σ')) (hf : ∀ n, σ.length ≤ n → n < σ'.length → β n = none) :
    Done base G β σ w σ' v (((Builtin.append_ argTypes ty #[s', x']).run P w).andThen fun v w' => .ok (.value v) w') := by
  obtain ⟨t0, t1, rfl⟩ : ∃ t0 t1, argTypes = #[t0, t1] := by
    obtain ⟨l⟩ := argTypes
    match l, hat with
    | [a, b], _ => exact ⟨a, b, rfl⟩
  unfold aappend at h
  simp only [List.getElem?_toArray, List.getElem?_cons_zero, List.getElem?_cons_succ, Option.bind_some] at h
  split at h
  case h_2 => simp at h
  rename_i e xt hu0 hu1
  split at h
  case isFalse => simp at h
  rename_i hc
  obtain ⟨hi0, hsrc⟩ := hc
  obtain ⟨ie, hie⟩ := info_some hi0
  obtain ⟨z, hz, h⟩ := Option.bind_eq_some_iff.1 h
  split at h
  case isFalse => simp at h
  rename_i hc
  obtain ⟨hzs, hz0, hb0⟩ := hc
  obtain ⟨⟨m, cells⟩, hnew, h⟩ := Option.bind_eq_some_iff.1 h
  split at h
  case h_2 => simp at h
  rename_i a len c h9 h10
  split at h
  case isFalse => simp at h
  rename_i hlim
  simp only at hlim h
  have hxt : (∃ e', xt = .slice e') ∨ xt = .string := by
    cases xt <;> simp [srcOk] at hsrc <;> simp
  obtain ⟨hlen, hcl, hone, arr, hfirst, hrel⟩ := src_ok (P := P) hs hrx hnew
  have harr : arr.size = m * P.cellsOf e := by
    have := hrel.length
    simp at this
    omega
  have hzero : ∀ k, (Builtin.zeroCells z.cells k).size = k * P.cellsOf e := fun k => by simp [Builtin.zeroCells, hzs]
  have hpre : ∀ (zs : Array Value) (i : Nat) (u : Value), cells[i]? = some u → ∃ u', (#[] ++ arr ++ zs)[i]? = some u' ∧ Rel β u u' := fun zs i u hu => by
    obtain ⟨u', h1, h2⟩ := rel_prefix hrel i u hu
    refine ⟨u', ?_, h2⟩
    have hlt := (Array.getElem?_eq_some_iff.1 h1).1
    rw [Array.getElem?_append_left (by simpa using hlt)]
    simpa using h1
  have empty_old : ∀ (y : Option Addr) (c' : Nat) (w1 : World), (Builtin.firstCells (P.cellsOf e) 0 (.slice y 0 c')).run P w1 = .ok #[] w1 := fun y c' w1 => by
    cases y with
    | none => rfl
    | some a =>
      unfold Builtin.firstCells
      rw [Nat.zero_mul]
      rfl
  have empty_new : m = 0 → cells = [] ∧ arr = #[] := fun hm => by
    subst hm
    simp at hcl harr
    exact ⟨hcl, harr⟩
  have empty_in : ∀ y : Option Addr, m = 0 → (Builtin.append_ #[t0, t1] ty #[.slice y 0 0, x']).run P w = .ok (.slice y 0 0) w := fun y hm => by
    have h1 := run_append_in (P := P) (ty := ty) (y := y) (len := 0) (c' := 0) (w1 := w) hu0 hu1 hxt hie hlen (hfirst w rfl) (by omega) (by
      obtain ⟨_, rfl⟩ := empty_new hm
      cases y with
      | none => rfl
      | some a => rfl)
    subst hm
    exact h1
  split at h
  · rename_i hcase
    obtain ⟨rfl, rfl⟩ := hcase
    simp only [Option.some.injEq, Prod.mk.injEq] at h
    obtain ⟨rfl, rfl⟩ := h
    have hfl : β σ.length = none := hf _ (Nat.le_refl _) (by simp)
    obtain ⟨y, rfl⟩ : ∃ y, s' = .slice y 0 0 := by
      rcases hrs.slc_inv with ⟨_, _, _, rfl⟩ | ⟨_, _, _, y, rfl⟩ | ⟨_, _, c', cb, _, _, _, h2, _, rfl⟩
      · exact ⟨_, rfl⟩
      · exact ⟨_, rfl⟩
      · rw [h2 rfl]; exact ⟨_, rfl⟩
    by_cases hm : m = 0
    · obtain ⟨rfl, _⟩ := empty_new hm
      obtain ⟨s1, s2⟩ := sim_empty hs hfl (P.cellsOf e)
      refine ⟨.slice y 0 0, w, β, .inl ?_, ?_, s1, s2⟩
      · rw [empty_in y hm]; rfl
      · subst hm; exact .slc0 _ _ _
    · obtain ⟨N, hN, hrun⟩ := run_append_new (P := P) (ty := ty) (y := y) (len := 0) (c' := 0) (old := #[]) hu0 hu1 hxt hie hz hb0 hlen hfirst (fun w1 _ => empty_old y 0 w1) (by omega) hlim
      obtain ⟨s1, s2⟩ := sim_new (sz := P.cellsOf e) (w' := { w with heap := w.heap.push (.cells (#[] ++ arr ++ Builtin.zeroCells z.cells (N - (0 + m))) e), drawn := w.drawn + 1 }) hs hfl rfl rfl rfl rfl
        (by simp only [Array.size_append, hzero, harr, hcl]; simp) hone (hpre _)
      refine ⟨.slice (some ⟨w.heap.size, 0, none⟩) (0 + m) N, _, _, .inl ?_, ?_, s1, s2⟩
      · rw [hrun]; rfl
      · rw [Nat.zero_add] at hN ⊢
        refine .slc σ.length 0 m (m + 1) N _ (Map.upd_same _ _ _) hN (fun h => by omega) (fun _ => ?_)
        simp only [Array.size_append, hzero, harr]
        simp only [Array.size_empty, Nat.zero_add, ← Nat.add_mul]
        exact Nat.mul_le_mul_right _ (by omega)
  · rename_i hcase
    split at h
    case h_2 => simp at h
    rename_i n o
    obtain ⟨b, hb, h⟩ := Option.bind_eq_some_iff.1 h
    split at h
    case isFalse => simp at h
    rename_i hc
    obtain ⟨hbo, hbs, hbl⟩ := hc
    simp only [Option.some.injEq, Prod.mk.injEq] at h
    obtain ⟨rfl, rfl⟩ := h
    have hln : (σ.set n none).length = σ.length := by simp
    have hfl : β σ.length = none := hf _ (Nat.le_refl _) (by simp)
    rcases hrs.slc_inv with ⟨h0, _⟩ | ⟨_, _, rfl, y, rfl⟩ | ⟨n', o', c', cb, he, hcb, k1, k2, k3, rfl⟩
    · simp at h0
    · have hdrop : b.cells.drop o = [] := List.drop_eq_nil_iff.2 (by omega)
      rw [hdrop, List.nil_append]
      by_cases hm : m = 0
      · obtain ⟨rfl, _⟩ := empty_new hm
        have hk := sim_kill hs n
        obtain ⟨s1, s2⟩ := sim_empty hk (by rw [hln]; exact hfl) (P.cellsOf e)
        refine ⟨.slice y 0 0, w, β, .inl ?_, ?_, s1, step_kill s2⟩
        · rw [empty_in y hm]; rfl
        · subst hm; exact .slc0 _ _ _
      · obtain ⟨N, hN, hrun⟩ := run_append_new (P := P) (ty := ty) (y := y) (len := 0) (c' := 0) (old := #[]) hu0 hu1 hxt hie hz hb0 hlen hfirst (fun w1 _ => empty_old y 0 w1) (by omega) hlim
        obtain ⟨s1, s2⟩ := sim_moved (sz := P.cellsOf e) (w' := { w with heap := w.heap.push (.cells (#[] ++ arr ++ Builtin.zeroCells z.cells (N - (0 + m))) e), drawn := w.drawn + 1 }) hs hfl hb rfl rfl rfl rfl
          (by simp only [Array.size_append, hzero, harr, hcl]; simp) hone (hpre _)
        refine ⟨.slice (some ⟨w.heap.size, 0, none⟩) (0 + m) N, _, _, .inl ?_, ?_, s1, s2⟩
        · rw [hrun]; rfl
        · rw [Nat.zero_add] at hN ⊢
          refine .slc σ.length 0 m (m + 1) N _ (Map.upd_same _ _ _) hN (fun h => by omega) (fun _ => ?_)
          simp only [Array.size_append, hzero, harr]
          simp only [Array.size_empty, Nat.zero_add, ← Nat.add_mul]
          exact Nat.mul_le_mul_right _ (by omega)
    · simp only [Option.some.injEq, Addr.mk.injEq] at he
      obtain ⟨rfl, rfl, _⟩ := he
      have hh := hs.holds n cb b hcb hb
      have hco : cb.own = true := hh.own.trans hbo
      have hcs : cb.sz = P.cellsOf e := hh.sz.trans hbs
      have k3' := k3 hco
      rw [hcs] at k3'
      obtain ⟨c0, e0, frz, hobj, q1, q2, q3⟩ := hh.obj
      have hroom := hh.len
      have hone2 : ∀ v ∈ b.cells.drop o ++ cells, v.oneCell' = true := fun v hv => by
        rcases List.mem_append.1 hv with hv | hv
        · exact hh.one v (List.mem_of_mem_drop hv)
        · exact hone v hv
      have hdl : (b.cells.drop o).length = len * P.cellsOf e := by rw [List.length_drop]; omega
      by_cases hneed : len + m ≤ c'
      · have hmul : (len + m) * P.cellsOf e ≤ c' * P.cellsOf e := Nat.mul_le_mul_right _ hneed
        rw [Nat.add_mul] at hmul
        obtain ⟨w', hr, r1, r2, r3, r4, r5, r6⟩ := run_stores (P := P) cb.blk e0 frz (q2 hco) arr.toList (cb.off + o + len * P.cellsOf e) 0 c0 w hobj (by simp [harr]; omega) (relL_oneCell hrel hone)
        have hrun := run_append_in (P := P) (ty := ty) (y := some ⟨cb.blk, cb.off + o, none⟩) (len := len) (c' := c') (w1 := w') hu0 hu1 hxt hie hlen (hfirst w rfl) hneed (by simp only [addr_add]; exact hr)
        obtain ⟨s1, s2⟩ := sim_again (sz := P.cellsOf e) (d := o) (w' := w') (cells := b.cells.drop o ++ cells) hs hfl hb hcb hbo hobj r1 (by simp [setAll_length]) r2 r3 r4 r5 r6 (by omega) hone2 (by rw [List.length_append, hdl, hcl]; omega) (by
          intro i u hu
          rw [List.getElem?_toArray, setAll_get _ _ _ _ (by simp [harr]; omega)]
          simp only [Array.length_toList, harr]
          by_cases hi : i < len * P.cellsOf e
          · rw [if_neg (by omega)]
            rw [List.getElem?_append_left (by omega), List.getElem?_drop] at hu
            obtain ⟨u', h1, h2⟩ := q3 (o + i) u hu
            exact ⟨u', by rw [Array.getElem?_toList, Nat.add_assoc]; exact h1, h2⟩
          · rw [List.getElem?_append_right (by omega), hdl] at hu
            have hi2 := (List.getElem?_eq_some_iff.1 hu).1
            rw [if_pos (by omega)]
            obtain ⟨u', h1, h2⟩ := hrel.get _ u hu
            exact ⟨u', by rw [show cb.off + o + i - (cb.off + o + len * P.cellsOf e + 0) = i - len * P.cellsOf e by omega]; exact h1, h2⟩)
        refine ⟨.slice (some ⟨cb.blk, cb.off + o, none⟩) (len + m) c', w', _, .inl ?_, ?_, s1, s2⟩
        · rw [hrun]; rfl
        · exact .slc σ.length 0 (len + m) (len + m + 1) c' ⟨cb.blk, cb.off + o, cb.room - o, true, P.cellsOf e⟩ (Map.upd_same _ _ _) hneed (fun h => by omega) (fun _ => by show 0 + c' * P.cellsOf e ≤ cb.room - o; omega)
      · obtain ⟨cs, hcsl, hcr, hcell⟩ := hh.cells (o := o) (n := len * P.cellsOf e) (by omega)
        have hold : ∀ w1 : World, w1.heap = w.heap → (Builtin.firstCells (P.cellsOf e) len (.slice (some ⟨cb.blk, cb.off + o, none⟩) len c')).run P w1 = .ok cs.toArray w1 := fun w1 hw1 => by
          unfold Builtin.firstCells
          have := run_loadCells_list (P := P) w1 _ cs (fun j v hj => by
            have := hcell j v hj
            unfold World.cell? at this ⊢
            rw [hw1]
            exact this)
          rw [hcsl] at this
          exact this
        obtain ⟨N, hN, hrun⟩ := run_append_new (P := P) (ty := ty) (y := some ⟨cb.blk, cb.off + o, none⟩) (len := len) (c' := c') (old := cs.toArray) hu0 hu1 hxt hie hz hb0 hlen hfirst hold (by omega) hlim
        have htake : (b.cells.drop o).take (len * P.cellsOf e) = b.cells.drop o := List.take_of_length_le (by omega)
        rw [htake] at hcr
        have hall : RelL β (b.cells.drop o ++ cells) (cs ++ arr.toList) := hcr.append hrel
        obtain ⟨s1, s2⟩ := sim_moved (sz := P.cellsOf e) (cells := b.cells.drop o ++ cells) (w' := { w with heap := w.heap.push (.cells (cs.toArray ++ arr ++ Builtin.zeroCells z.cells (N - (len + m))) e), drawn := w.drawn + 1 }) hs hfl hb rfl rfl rfl rfl
          (by simp only [Array.size_append, hzero, harr, List.length_append, hdl, hcl, List.size_toArray, hcsl]; omega) hone2 (fun i u hu => by
            obtain ⟨u', h1, h2⟩ := hall.get i u hu
            have hlt := (List.getElem?_eq_some_iff.1 h1).1
            refine ⟨u', ?_, h2⟩
            rw [Array.getElem?_append_left (by simp at hlt ⊢; omega)]
            rw [← Array.getElem?_toList]
            simpa using h1)
        refine ⟨.slice (some ⟨w.heap.size, 0, none⟩) (len + m) N, _, _, .inl ?_, ?_, s1, s2⟩
        · rw [hrun]; rfl
        · refine .slc σ.length 0 (len + m) (len + m + 1) N _ (Map.upd_same _ _ _) hN (fun h => by omega) (fun _ => ?_)
          simp only [Array.size_append, hzero, harr, List.size_toArray, hcsl]
          rw [← Nat.add_mul, ← Nat.add_mul, Nat.zero_add]
          exact Nat.mul_le_mul_right _ (by omega)

theorem relP_map {ρ cρ : Operand → Value} : ∀ (l : List (Nat × Operand)), (∀ p ∈ l, Rel β (ρ p.2) (cρ p.2)) → RelP β (l.map fun p => (p.1, ρ p.2)) (l.map fun p => (p.1, cρ p.2))
  | [], _ => .nil
  | (i, x) :: l, h => .cons i _ _ _ _ (h (i, x) (by simp)) (relP_map l fun p hp => h p (by simp [hp]))
theorem relL_map {ρ cρ : Operand → Value} : ∀ (l : List Operand), (∀ x ∈ l, Rel β (ρ x) (cρ x)) → RelL β (l.map ρ) (l.map cρ)
  | [], _ => .nil
  | x :: l, h => .cons _ _ _ _ (h x (by simp)) (relL_map l fun y hy => h y (by simp [hy]))
theorem relO_map {ρ cρ : Operand → Value} (o : Option Operand) (h : ∀ x ∈ o.toList, Rel β (ρ x) (cρ x)) : RelO β (o.map ρ) (o.map cρ) := by
  cases o with
  | none => trivial
  | some x => exact h x (by simp)

set_option maxHeartbeats 2000000 in
/-- **What an operation does in the abstract machine, it does in every world that is as the abstract heap says.** -/
theorem aop_sound {o : Oper} {ρ cρ : Operand → Value} {v : Value} {σ' : Heap} (hρ : ∀ x ∈ o.op.operands.toList, Rel β (ρ x) (cρ x)) (hs : Sim base G β σ w) (hf : ∀ n, σ.length ≤ n → n < σ'.length → β n = none)
    (h : aop P ρ σ o.op = some (v, σ')) : Done base G β σ w σ' v ((execOp cρ o).run P w) := by
  obtain ⟨dst, op, ty, pos, after, guard⟩ := o
  simp only at hρ h
  have wrapV : ∀ {s : Sem Value}, Done base G β σ w σ' v ((s.run P w).andThen fun v w' => .ok (.value v) w') → Done base G β σ w σ' v ((do pure (.value (← s)) : Sem Next).run P w) := fun h => by
    simpa only [Sem.run_bind, Sem.run_pure] using h
  have pure1 : ∀ {s : Sem Value}, σ' = σ → (∃ v', s.run P w = .ok v' w ∧ Rel β v v') → Done base G β σ w σ' v ((do pure (.value (← s)) : Sem Next).run P w) := fun he ⟨v', h1, h2⟩ => by
    subst he
    refine done_pure hs ⟨v', ?_, h2⟩
    simp only [Sem.run_bind, h1, Result.andThen_ok, Sem.run_pure]
  cases op <;> simp only [aop] at h
  case move x =>
    obtain ⟨rfl, rfl⟩ := Prod.mk.inj (Option.some.inj h)
    exact done_pure hs ⟨_, rfl, hρ x (by simp [Op.operands])⟩
  case assign x =>
    obtain ⟨rfl, rfl⟩ := Prod.mk.inj (Option.some.inj h)
    exact done_pure hs ⟨_, rfl, hρ x (by simp [Op.operands])⟩
  case pick c a b =>
    split at h
    · rename_i t hc
      obtain ⟨rfl, rfl⟩ := Prod.mk.inj (Option.some.inj h)
      have hcc := hρ c (by simp [Op.operands])
      rw [hc] at hcc
      have hcb := hcc.bool_inv
      refine done_pure hs ⟨if t then cρ a else cρ b, ?_, ?_⟩
      · simp only [execOp, Sem.run_bind, hcb, asBool, Sem.run_pure, Result.andThen_ok]
      · cases t
        · exact hρ b (by simp [Op.operands])
        · exact hρ a (by simp [Op.operands])
    · simp at h
  case alloc t =>
    split at h
    · rename_i hi
      obtain ⟨z, hz, h⟩ := Option.bind_eq_some_iff.1 h
      split at h
      · rename_i hsc
        obtain ⟨rfl, rfl⟩ := Prod.mk.inj (Option.some.inj h)
        exact wrapV (alloc_done hs hz hsc hf)
      · simp at h
    · simp at h
  case box t x =>
    split at h
    · rename_i hone
      obtain ⟨rfl, rfl⟩ := Prod.mk.inj (Option.some.inj h)
      exact wrapV (box_done hs (hρ x (by simp [Op.operands])) hone hf)
    · simp at h
  case build t parts =>
    obtain ⟨u, hu, h⟩ := Option.map_eq_some_iff.1 h
    obtain ⟨rfl, rfl⟩ := Prod.mk.inj h
    have e : execOp cρ { dst := dst, op := .build t parts, type := ty, pos := pos, after := after, guard := guard } = (do pure (.value (← Instr.build t (parts.map fun p => (p.1, cρ p.2)))) : Sem Next) := by
      simp only [execOp]
    rw [e]
    refine pure1 rfl (build_ok (parts' := parts.map fun p => (p.1, cρ p.2)) ?_ hu)
    rw [Array.toList_map]
    exact relP_map _ fun p hp => hρ p.2 (by simp only [Op.operands]; simp; exact ⟨p.1, by simpa using hp⟩)
  case buildSlice t len parts =>
    have e : execOp cρ { dst := dst, op := .buildSlice t len parts, type := ty, pos := pos, after := after, guard := guard } = (do pure (.value (← Instr.buildSlice t len (parts.map fun p => (p.1, cρ p.2)))) : Sem Next) := by
      simp only [execOp]
    rw [e]
    have hp : RelP β (parts.toList.map fun p => (p.1, ρ p.2)) (parts.map fun p => (p.1, cρ p.2)).toList := by
      rw [Array.toList_map]
      exact relP_map _ fun p hp => hρ p.2 (by simp only [Op.operands]; simp; exact ⟨p.1, by simpa using hp⟩)
    generalize (parts.map fun p => (p.1, cρ p.2)) = parts' at hp ⊢
    exact wrapV (buildSlice_done hs hp h hf)
  case load t a =>
    obtain ⟨u, hu, h⟩ := Option.map_eq_some_iff.1 h
    obtain ⟨rfl, rfl⟩ := Prod.mk.inj h
    exact pure1 rfl (load_ok hs (hρ a (by simp [Op.operands])) hu)
  case store t a x =>
    obtain ⟨u, hu, h⟩ := Option.map_eq_some_iff.1 h
    obtain ⟨rfl, rfl⟩ := Prod.mk.inj h
    have := store_done hs (hρ a (by simp [Op.operands])) (hρ x (by simp [Op.operands])) hu
    have e : ((do Instr.storeAt t (cρ a) (cρ x); pure .skip : Sem Next).run P w) = (((Instr.storeAt t (cρ a) (cρ x)).run P w).andThen fun _ w' => .ok .skip w') := by
      simp only [Sem.run_bind, Sem.run_pure]
    exact e ▸ this
  case nilCheck x =>
    obtain ⟨u, hu, h⟩ := Option.map_eq_some_iff.1 h
    obtain ⟨rfl, rfl⟩ := Prod.mk.inj h
    have hx := hρ x (by simp [Op.operands])
    unfold anilCheck at hu
    split at hu
    · rename_i a ha
      obtain rfl := Option.some.inj hu
      rw [ha] at hx
      have hx2 := hx
      obtain ⟨cb, _, _, hcx⟩ := hx.ptr_inv
      refine done_pure hs ⟨cρ x, ?_, hx2⟩
      simp only [execOp, hcx]
      rfl
    · rename_i f a b ha
      obtain rfl := Option.some.inj hu
      rw [ha] at hx
      have hx2 := hx
      obtain ⟨c, d, hcx, _⟩ := hx.func_inv
      refine done_pure hs ⟨cρ x, ?_, hx2⟩
      simp only [execOp, hcx]
      rfl
    · simp at hu
  case binOp op t x y yt =>
    split at h
    · rename_i hg
      obtain ⟨u, hu, h⟩ := Option.map_eq_some_iff.1 h
      obtain ⟨rfl, rfl⟩ := Prod.mk.inj h
      have hx := hρ x (by simp [Op.operands])
      have hy := hρ y (by simp [Op.operands])
      obtain ⟨v', h1, h2⟩ := bin_ok (w := w) hx hy hu
      have hne : ρ x ≠ junk ∧ ρ y ≠ junk := by
        unfold abin at hu
        split at hu
        · rename_i e1 e2
          exact ⟨by rw [e1]; simp [junk], by rw [e2]; simp [junk]⟩
        · rename_i e1 e2
          exact ⟨by rw [e1]; simp [junk], by rw [e2]; simp [junk]⟩
        · cases op <;> simp only at hu <;> first
            | (obtain ⟨r, hr, _⟩ := Option.map_eq_some_iff.1 hu; exact aeq_junk _ _ _ _ _ hr)
            | (simp at hu; done)
      refine done_pure hs ⟨v', ?_, h2⟩
      simp only [execOp, Sem.run_bind, guard_ok hx hy hg hne.1 hne.2, Result.andThen_ok, h1, Sem.run_pure]
    · simp at h
  case unOp op t x =>
    obtain ⟨u, hu, h⟩ := Option.map_eq_some_iff.1 h
    obtain ⟨rfl, rfl⟩ := Prod.mk.inj h
    exact pure1 rfl (unary_ok (hρ x (by simp [Op.operands])) hu)
  case convert s d x =>
    obtain ⟨u, hu, h⟩ := Option.map_eq_some_iff.1 h
    obtain ⟨rfl, rfl⟩ := Prod.mk.inj h
    exact pure1 rfl (convert_ok (hρ x (by simp [Op.operands])) hu)
  case makeInterface t x =>
    obtain ⟨u, hu, h⟩ := Option.map_eq_some_iff.1 h
    obtain ⟨rfl, rfl⟩ := Prod.mk.inj h
    exact pure1 rfl (makeInterface_ok (hρ x (by simp [Op.operands])) hu)
  case makeFunc f a b =>
    obtain ⟨rfl, rfl⟩ := Prod.mk.inj (Option.some.inj h)
    refine done_pure hs ⟨.func f (a.map cρ) (b.map cρ), ?_, .func _ _ _ _ _ ?_ ?_⟩
    · simp only [execOp, Instr.makeFunc, Sem.run_bind, Sem.run_pure, Result.andThen_ok]
    · rw [Array.toList_map, Array.toList_map]
      exact relL_map _ fun x hx => hρ x (by simp only [Op.operands]; simp; exact .inl (by simpa using hx))
    · rw [Array.toList_map, Array.toList_map]
      exact relL_map _ fun x hx => hρ x (by simp only [Op.operands]; simp; exact .inr (by simpa using hx))
  case makeSlice t n m =>
    exact wrapV (makeSlice_done hs (hρ n (by simp [Op.operands])) (hρ m (by simp [Op.operands])) h hf)
  case slice t x lo hi mx =>
    obtain ⟨u, hu, h⟩ := Option.map_eq_some_iff.1 h
    obtain ⟨rfl, rfl⟩ := Prod.mk.inj h
    refine pure1 rfl (slice_ok hs (hρ x (by simp [Op.operands])) (relO_map lo fun y hy => hρ y ?_) (relO_map hi fun y hy => hρ y ?_) (relO_map mx fun y hy => hρ y ?_) hu)
    · simp only [Op.operands]
      simp only [Array.toList_append, List.mem_append]
      cases lo <;> simp at hy; subst hy; simp
    · simp only [Op.operands]
      simp only [Array.toList_append, List.mem_append]
      cases hi <;> simp at hy; subst hy; simp
    · simp only [Op.operands]
      simp only [Array.toList_append, List.mem_append]
      cases mx <;> simp at hy; subst hy; simp
  case fieldAddr s x f =>
    obtain ⟨u, hu, h⟩ := Option.map_eq_some_iff.1 h
    obtain ⟨rfl, rfl⟩ := Prod.mk.inj h
    exact pure1 rfl (fieldAddr_ok (hρ x (by simp [Op.operands])) hu)
  case field s x f =>
    obtain ⟨u, hu, h⟩ := Option.map_eq_some_iff.1 h
    obtain ⟨rfl, rfl⟩ := Prod.mk.inj h
    exact pure1 rfl (field_ok (hρ x (by simp [Op.operands])) hu)
  case indexAddr t x i =>
    obtain ⟨u, hu, h⟩ := Option.map_eq_some_iff.1 h
    obtain ⟨rfl, rfl⟩ := Prod.mk.inj h
    exact pure1 rfl (indexAddr_ok (hρ x (by simp [Op.operands])) (hρ i (by simp [Op.operands])) hu)
  case index t x i =>
    obtain ⟨u, hu, h⟩ := Option.map_eq_some_iff.1 h
    obtain ⟨rfl, rfl⟩ := Prod.mk.inj h
    exact pure1 rfl (index_ok (hρ x (by simp [Op.operands])) (hρ i (by simp [Op.operands])) hu)
  case extract x i =>
    obtain ⟨u, hu, h⟩ := Option.map_eq_some_iff.1 h
    obtain ⟨rfl, rfl⟩ := Prod.mk.inj h
    exact pure1 rfl (extract_ok (hρ x (by simp [Op.operands])) hu)
  case call c =>
    obtain ⟨callee, args, argTypes⟩ := c
    simp only at h
    have hargs : ∀ x ∈ args.toList, Rel β (ρ x) (cρ x) := fun x hx => hρ x (by
      simp only [Op.operands, Call.operands]
      simp only [Array.toList_append, List.mem_append]
      exact .inr hx)
    split at h
    · obtain ⟨u, hu, h⟩ := Option.map_eq_some_iff.1 h
      obtain ⟨rfl, rfl⟩ := Prod.mk.inj h
      obtain ⟨v', h1, h2⟩ := len_ok (w := w) (ty := ty) (args' := args.map cρ) (by rw [Array.toList_map]; exact relL_map _ hargs) hu
      refine done_pure hs ⟨v', ?_, h2⟩
      simp only [execOp, resolve, Sem.run_bind, Sem.run_pure, Result.andThen_ok, invoke, builtin, h1]
    · split at h
      · rename_i s x hsx
        have hss := hargs s (by rw [hsx]; simp)
        have hxx := hargs x (by rw [hsx]; simp)
        have hat : argTypes.size = 2 ∨ argTypes.size ≠ 2 := Decidable.em _
        have he : args = #[s, x] := by
          apply Array.ext'
          simpa using hsx
        subst he
        have hat2 : ∃ t0 t1, argTypes[0]? = some t0 ∧ argTypes[1]? = some t1 := by
          unfold aappend at h
          cases h0 : argTypes[0]? with
          | none => rw [h0] at h; simp at h
          | some t0 =>
            cases h1 : argTypes[1]? with
            | none => rw [h0, h1] at h; simp at h
            | some t1 => exact ⟨t0, t1, rfl, rfl⟩
        obtain ⟨t0, t1, ha0, ha1⟩ := hat2
        have h' : aappend P σ #[t0, t1] (ρ s) (ρ x) = some (v, σ') := by
          unfold aappend at h ⊢
          rw [ha0, ha1] at h
          exact h
        have := append_done (ty := ty) hs (argTypes := #[t0, t1]) rfl hss hxx h' hf
        have e2 : Builtin.append_ argTypes ty #[cρ s, cρ x] = Builtin.append_ #[t0, t1] ty #[cρ s, cρ x] := by
          unfold Builtin.append_
          rw [ha0, ha1]
          rfl
        have e : (execOp cρ { dst := dst, op := .call { callee := .builtin .append, args := #[s, x], argTypes := argTypes }, type := ty, pos := pos, after := after, guard := guard }).run P w = (((Builtin.append_ #[t0, t1] ty #[cρ s, cρ x]).run P w).andThen fun v w' => .ok (.value v) w') := by
          simp only [execOp, resolve, Sem.run_bind, Sem.run_pure, Result.andThen_ok, invoke, builtin]
          rw [← e2, show (#[s, x] : Array Operand).map cρ = #[cρ s, cρ x] from by simp]
        rw [e]
        exact this
      · simp at h
    · simp at h
  all_goals simp at h

/-- An operation that looks at no memory does the same in every heap. -/
theorem aop_free {o : Op} {ρ : Operand → Value} {v : Value} {σ' : Heap} (hfree : heapFree o = true) (h : aop P ρ σ o = some (v, σ')) : σ' = σ ∧ ∀ σ1, aop P ρ σ1 o = some (v, σ1) := by
  cases o <;> simp only [heapFree] at hfree <;> first | (simp at hfree; done) | skip
  case call c =>
    obtain ⟨callee, args, argTypes⟩ := c
    cases callee with
    | value f => simp at hfree
    | invoke r m => simp at hfree
    | builtin b =>
      cases b <;> first | (simp at hfree; done) | skip
      simp only [aop] at h ⊢
      obtain ⟨u, hu, h⟩ := Option.map_eq_some_iff.1 h
      obtain ⟨rfl, rfl⟩ := Prod.mk.inj h
      exact ⟨rfl, fun σ1 => by rw [hu]; rfl⟩
  case pick c a b =>
    simp only [aop] at h ⊢
    split at h
    · obtain ⟨rfl, rfl⟩ := Prod.mk.inj (Option.some.inj h)
      exact ⟨rfl, fun σ1 => rfl⟩
    · simp at h
  case binOp op t x y yt =>
    simp only [aop] at h ⊢
    split at h
    · rename_i hg
      obtain ⟨u, hu, h⟩ := Option.map_eq_some_iff.1 h
      obtain ⟨rfl, rfl⟩ := Prod.mk.inj h
      exact ⟨rfl, fun σ1 => by rw [if_pos hg, hu]; rfl⟩
    · simp at h
  all_goals
    simp only [aop] at h ⊢
    first
      | (obtain ⟨rfl, rfl⟩ := Prod.mk.inj (Option.some.inj h); exact ⟨rfl, fun σ1 => rfl⟩)
      | (obtain ⟨u, hu, h⟩ := Option.map_eq_some_iff.1 h
         obtain ⟨rfl, rfl⟩ := Prod.mk.inj h
         exact ⟨rfl, fun σ1 => by rw [hu]; rfl⟩)
end
end Go.Proofs.YtkgdkommahgakaaDoor.Abs
