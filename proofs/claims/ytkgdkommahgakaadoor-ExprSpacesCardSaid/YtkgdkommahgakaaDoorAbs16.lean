/- The abstract machine: what its operations do at a type of which the table tells this and that. -/
import Derived.Test.YtkgdkommahgakaaDoorAbs15
namespace Go.Proofs.YtkgdkommahgakaaDoor.Abs
open Go Go.RowKit
set_option linter.unusedVariables false
set_option linter.unusedSimpArgs false

section
variable (P : Program)
/-- A slice type: cells and bytes of an element, its zero. -/
def sspec (t : TypeId) : Option (Nat × Nat × List Value) := match P.underlying t with
  | some (.slice e) => if (P.info? e).isSome = true then (tzero P e).bind fun z => if z.cells.size = P.cellsOf e ∧ 0 < P.cellsOf e ∧ 0 < P.bytesOf e ∧ z.cells.all scal = true then some (P.cellsOf e, P.bytesOf e, z.cells.toList) else none else none
  | _ => none
/-- A struct type: where its fields lie, its zero. -/
def bspec (t : TypeId) : Option (List (Nat × Nat) × List Value) := match P.underlying t with
  | some (.struct fs) => if fs.all (fun f => (P.info? f.type).isSome) = true then (tzero P t).bind fun z => if z.cells.all scal = true then some ((fs.map fun f => (f.offset, P.cellsOf f.type)).toList, z.cells.toList) else none else none
  | _ => none
def lspec (t : TypeId) : Option (Bool × Nat) := (aggT P t).map fun g => (g, P.cellsOf t)
def tspec (t : TypeId) : Bool × Nat := ((P.info? t).isSome, P.cellsOf t)
def xspec (t u : TypeId) : Bool := match P.underlying t, P.underlying u with
  | some (.slice e), some d => srcOk P e d
  | _, _ => false
end

section
variable {P : Program} {t u : TypeId} {σ : Heap} {C B : Nat} {zs : List Value} {pl : List (Nat × Nat)} {k k' : IntKind}
theorem sspec_out (h : sspec P t = some (C, B, zs)) : ∃ e z, P.underlying t = some (.slice e) ∧ (P.info? e).isSome = true ∧ tzero P e = some z ∧ z.cells.size = C ∧ 0 < C ∧ 0 < B ∧ z.cells.all scal = true ∧ P.cellsOf e = C ∧ P.bytesOf e = B ∧ z.cells.toList = zs := by
  unfold sspec at h
  split at h
  case h_2 => simp at h
  rename_i e he
  split at h
  case isFalse => simp at h
  rename_i hi
  obtain ⟨z, hz, h⟩ := Option.bind_eq_some_iff.1 h
  split at h
  case isFalse => simp at h
  rename_i hc
  simp only [Option.some.injEq, Prod.mk.injEq] at h
  obtain ⟨rfl, rfl, rfl⟩ := h
  exact ⟨e, z, he, hi, hz, hc.1, hc.2.1, hc.2.2.1, hc.2.2.2, rfl, rfl, rfl⟩
theorem indexAddr_s (h : sspec P t = some (C, B, zs)) {n o len c : Nat} {i : Int} : aindexAddr P t (.slice (some ⟨n, o, none⟩) len c) (.int k i) = if 0 ≤ i ∧ i < (len : Int) then some (.pointer (some ⟨n, o + i.toNat * C, none⟩)) else none := by
  obtain ⟨e, z, h1, h2, h3, h4, h5, h6, h7, h8, h9, h10⟩ := sspec_out h
  simp only [aindexAddr, h1, h2, h8, true_and]
theorem makeSlice_s (h : sspec P t = some (C, B, zs)) {n : Int} : amakeSlice P σ t (.int k n) (.int k' n) = if 0 ≤ n ∧ n ≤ 140737488355328 ∧ n * B ≤ 140737488355328 then
    some (.slice (some ⟨σ.length, 0, none⟩) n.toNat n.toNat, σ ++ [some ⟨(List.replicate n.toNat zs).flatten, true, C⟩]) else none := by
  obtain ⟨e, z, h1, h2, h3, h4, h5, h6, h7, h8, h9, h10⟩ := sspec_out h
  have hc : z.cells.size = C ∧ 0 < C ∧ z.cells.all scal = true := ⟨h4, h5, h7⟩
  simp only [amakeSlice, h1, h2, h3, h8, h9, Option.bind_some, ↓if_pos hc, h10, if_true, true_and, Int.le_refl]
theorem buildSlice_s (h : sspec P t = some (C, B, zs)) {len : Nat} {parts : List (Nat × Value)} : abuildSlice P σ t len parts = if len * C ≤ 16777216 then
    (afill (fun i => some (i * C, C)) (List.replicate len zs).flatten parts).map fun cs => (.slice (some ⟨σ.length, 0, none⟩) len len, σ ++ [some ⟨cs, true, C⟩]) else none := by
  obtain ⟨e, z, h1, h2, h3, h4, h5, h6, h7, h8, h9, h10⟩ := sspec_out h
  have hc : z.cells.size = C ∧ 0 < C ∧ z.cells.all scal = true := ⟨h4, h5, h7⟩
  simp only [abuildSlice, h1, h2, h3, h8, h9, Option.bind_some, ↓if_pos hc, h10, true_and]
theorem append_p (h : sspec P t = some (C, B, zs)) (hx : xspec P t u = true) {n o : Nat} {len c : Nat} {x : Value} : aappend P σ #[t, u] (.slice (some ⟨n, o, none⟩) len c) x = (asrc σ C x).bind fun new => if (len + new.1 + 410) * B ≤ 225179981368524 then
    (if len = 0 ∧ c = 0 then some (.slice (some ⟨σ.length, 0, none⟩) new.1 (new.1 + 1), σ ++ [some ⟨new.2, true, C⟩])
     else (look σ n).bind fun b => if b.own = true ∧ b.sz = C ∧ b.cells.length = o + len * C then
          some (.slice (some ⟨σ.length, 0, none⟩) (len + new.1) (len + new.1 + 1), (σ.set n none) ++ [some ⟨b.cells.drop o ++ new.2, true, C⟩]) else none) else none := by
  obtain ⟨e, z, h1, h2, h3, h4, h5, h6, h7, h8, h9, h10⟩ := sspec_out h
  unfold xspec at hx
  simp only [h1] at hx
  split at hx
  case h_2 => simp at hx
  rename_i e' d he' hd
  cases he'
  unfold aappend
  simp only [List.getElem?_toArray, List.getElem?_cons_zero, List.getElem?_cons_succ, Option.bind_some, h1, hd, h2, hx, and_self, if_true, h3, h4, h5, h6, h8, h9]
theorem append_n (h : sspec P t = some (C, B, zs)) (hx : xspec P t u = true) {x : Value} : aappend P σ #[t, u] (.slice none 0 0) x = (asrc σ C x).bind fun new => if (new.1 + 410) * B ≤ 225179981368524 then
    some (.slice (some ⟨σ.length, 0, none⟩) new.1 (new.1 + 1), σ ++ [some ⟨new.2, true, C⟩]) else none := by
  obtain ⟨e, z, h1, h2, h3, h4, h5, h6, h7, h8, h9, h10⟩ := sspec_out h
  unfold xspec at hx
  simp only [h1] at hx
  split at hx
  case h_2 => simp at hx
  rename_i e' d he' hd
  cases he'
  unfold aappend
  simp only [List.getElem?_toArray, List.getElem?_cons_zero, List.getElem?_cons_succ, Option.bind_some, h1, hd, h2, hx, and_self, if_true, h3, h4, h5, h6, h8, h9, Nat.zero_add]
theorem load_s (h : lspec P t = some (false, C)) {n o : Nat} : aload P σ t (.pointer (some ⟨n, o, none⟩)) = (look σ n).bind fun b => b.cells[o]? := by
  unfold lspec at h
  obtain ⟨g, hg, h⟩ := Option.map_eq_some_iff.1 h
  obtain ⟨rfl, rfl⟩ := Prod.mk.inj h
  simp only [aload, hg, Option.bind_some, Bool.false_eq_true, if_false]
theorem load_a (h : lspec P t = some (true, C)) {n o : Nat} : aload P σ t (.pointer (some ⟨n, o, none⟩)) = (look σ n).bind fun b => if o + C ≤ b.cells.length then some (.agg ((b.cells.drop o).take C).toArray) else none := by
  unfold lspec at h
  obtain ⟨g, hg, h⟩ := Option.map_eq_some_iff.1 h
  obtain ⟨rfl, rfl⟩ := Prod.mk.inj h
  simp only [aload, hg, Option.bind_some, if_true]
theorem store_s (h : tspec P t = (true, C)) {n o : Nat} {v : Value} : astore P σ t (.pointer (some ⟨n, o, none⟩)) v = (look σ n).bind fun b =>
    if b.own = true ∧ (cl v).length = C ∧ o + (cl v).length ≤ b.cells.length ∧ lone v = true then some (σ.set n (some { b with cells := setAll b.cells o (cl v) })) else none := by
  unfold tspec at h
  obtain ⟨h1, rfl⟩ := Prod.mk.inj h
  simp only [astore, h1, true_and, lone_eq]
  simp only [cl_size]
  rfl
theorem build_s (h : bspec P t = some (pl, zs)) {parts : List (Nat × Value)} : abuild P t parts = (afill (fun i => pl[i]?) zs parts).map fun cs => .agg cs.toArray := by
  unfold bspec at h
  split at h
  case h_2 => simp at h
  rename_i fs hfs
  split at h
  case isFalse => simp at h
  rename_i hi
  obtain ⟨z, hz, h⟩ := Option.bind_eq_some_iff.1 h
  split at h
  case isFalse => simp at h
  rename_i hc
  obtain ⟨rfl, rfl⟩ := Prod.mk.inj (Option.some.inj h)
  simp only [abuild, hfs, hi, if_true, hz, Option.bind_some, hc]
  congr 2
  funext i
  simp
theorem field_s {f : Nat} (h : lspec P u = some (false, C)) {fs : Array Field} {o : Nat} {cs : Array Value} (hs : ∃ fs fl, P.underlying t = some (.struct fs) ∧ fs[f]? = some fl ∧ fl.type = u ∧ fl.offset = o) : afield P t (.agg cs) f = cs[o]? := by
  obtain ⟨fs, fl, h1, h2, rfl, rfl⟩ := hs
  unfold lspec at h
  obtain ⟨g, hg, h⟩ := Option.map_eq_some_iff.1 h
  obtain ⟨rfl, rfl⟩ := Prod.mk.inj h
  simp only [afield, h1, h2, Option.bind_some, apart, hg, Bool.false_eq_true, if_false]
theorem fill_nil {pl : Nat → Option (Nat × Nat)} {cs : List Value} : afill pl cs [] = some cs := eq_of_heq HEq.rfl
theorem fill_cons {pl : Nat → Option (Nat × Nat)} {cs : List Value} {i : Nat} {v : Value} {rest : List (Nat × Value)} : afill pl cs ((i, v) :: rest) = (pl i).bind fun p =>
    if (cl v).length = p.2 ∧ p.1 + (cl v).length ≤ cs.length ∧ lone v = true then afill pl (setAll cs p.1 (cl v)) rest else none := by
  simp only [afill, lone_eq]
  simp only [cl_size]
  rfl
theorem setAll_nil {cs : List Value} {o : Nat} : setAll cs o [] = cs := eq_of_heq HEq.rfl
theorem setAll_cons {cs : List Value} {o : Nat} {v : Value} {vs : List Value} : setAll cs o (v :: vs) = setAll (cs.set o v) (o + 1) vs := eq_of_heq HEq.rfl
theorem len_s (h : sspec P t = some (C, B, zs)) {a : Option Addr} {n c : Nat} : alen P #[t] [.slice a n c] = some (.int .i64 n) := by
  obtain ⟨e, z, h1, h2, h3, h4, h5, h6, h7, h8, h9, h10⟩ := sspec_out h
  simp [alen, h1]
theorem len_str (h : P.underlying t = some .string) {b : ByteArray} : alen P #[t] [.string b] = some (.int .i64 b.size) := by simp [alen, h]
theorem src_zero {sz c : Nat} {a : Option Addr} : asrc σ sz (.slice a 0 c) = some (0, []) := by simp [asrc]
theorem src_slice {sz c n o len : Nat} : asrc σ sz (.slice (some ⟨n, o, none⟩) (len + 1) c) = (look σ n).bind fun b => if o + (len + 1) * sz ≤ b.cells.length then some (len + 1, (b.cells.drop o).take ((len + 1) * sz)) else none := by simp [asrc]
theorem src_ptr {sz c n o len : Nat} {b : Blk} (h : look σ n = some b) (hl : o + len * sz ≤ b.cells.length) : asrc σ sz (.slice (some ⟨n, o, none⟩) len c) = some (len, (b.cells.drop o).take (len * sz)) := by
  cases len with
  | zero => simp [asrc]
  | succ m => rw [src_slice, h, Option.bind_some, if_pos hl]
theorem convert_i {k2 : IntKind} (h : (P.underlying t).isSome = true) (h2 : P.underlying u = some (.int k)) {n : Int} : aconvert P t u (.int k2 n) = some (.int k (k.wrap n)) := by
  unfold aconvert
  cases ht : P.underlying t with
  | none => rw [ht] at h; simp at h
  | some d => simp [h2]
theorem eq_b (h : P.underlying t = some .bool) {a b : Bool} : abin P .eql t (.bool a) (.bool b) = some (.bool (decide (a = b))) := by simp [abin, aeq, h]
theorem ne_b (h : P.underlying t = some .bool) {a b : Bool} : abin P .neq t (.bool a) (.bool b) = some (.bool (!decide (a = b))) := by simp [abin, aeq, h]
theorem index_str (h : P.underlying t = some .string) {s : ByteArray} {i : Int} : aindex P t (.string s) (.int k i) = if 0 ≤ i then (s.data[i.toNat]?).map fun b => .int .u8 b.toNat else none := by simp only [aindex, h]
theorem slice_str (h : P.underlying t = some .string) {s : ByteArray} {lo hi : Option Value} : aslice P σ t (.string s) lo hi none = (abound lo 0).bind fun l => (abound hi s.size).bind fun h => if 0 ≤ l ∧ l ≤ h ∧ h ≤ s.size then some (.string (s.extract l.toNat h.toNat)) else none := by
  simp only [aslice, h, Option.isNone_none, true_and]
theorem slice_sl (h : sspec P t = some (C, B, zs)) {n o len c : Nat} {lo hi : Option Value} : aslice P σ t (.slice (some ⟨n, o, none⟩) len c) lo hi none = (abound lo 0).bind fun l => (abound hi len).bind fun h =>
    if (0 ≤ l ∧ l ≤ h ∧ h ≤ len) ∧ (l = 0 ∨ sliceable σ C (some ⟨n, o, none⟩) = true) then some (.slice (some ⟨n, o + l.toNat * C, none⟩) (h - l).toNat (if l < h ∧ h = len ∧ c = len then (h - l).toNat else (h - l).toNat + 1)) else none := by
  obtain ⟨e, z, h1, h2, h3, h4, h5, h6, h7, h8, h9, h10⟩ := sspec_out h
  simp only [aslice, h1, h2, h8, if_true, Option.map_some, Option.isNone_some, Bool.false_eq_true, if_false, Option.isSome_none, false_and, false_or, true_and]
  congr 1
  funext l
  congr 1
  funext h
  simp only [abound, Option.bind_some]
  by_cases hc : (0 ≤ l ∧ l ≤ h ∧ h ≤ (len : Int))
  · simp [hc]
  · simp [hc]
theorem pick_b {c a b : Bool} : (bif c then Value.bool a else Value.bool b) = .bool (bif c then a else b) := by cases c <;> rfl
theorem ab_some {k : IntKind} {n d : Int} : abound (some (.int k n)) d = some n := eq_of_heq HEq.rfl
theorem ab_none {d : Int} : abound none d = some d := eq_of_heq HEq.rfl
theorem slab_i {n o : Nat} {b : Blk} {sz : Nat} (h : look σ n = some b) (hb : b.own = false ∨ b.sz = sz) : sliceable σ sz (some ⟨n, o, none⟩) = true := by
  simp only [sliceable, h]
  rcases hb with hb | hb <;> simp [hb]
theorem indexAddr_a {e : TypeId} {m : Nat} (h : P.underlying t = some (.array m e)) (h2 : (P.info? e).isSome = true) {n o : Nat} {i : Int} (hC : P.cellsOf e = C) : aindexAddr P t (.pointer (some ⟨n, o, none⟩)) (.int k i) = if 0 ≤ i ∧ i < (m : Int) then some (.pointer (some ⟨n, o + i.toNat * C, none⟩)) else none := by
  simp only [aindexAddr, h, h2, hC, true_and]
end
attribute [go_sem] pick_b Bool.cond_false_right Bool.cond_true_left ab_some ab_none Option.map_none List.replicate_succ List.replicate_zero List.flatten_cons List.flatten_nil List.append_nil List.length_set List.length_map Nat.mul_one List.take_succ_cons List.take_zero List.drop_zero Nat.add_one_ne_zero false_and and_false fill_nil fill_cons setAll_nil setAll_cons src_zero src_slice
end Go.Proofs.YtkgdkommahgakaaDoor.Abs
