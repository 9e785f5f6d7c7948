/- What the type table tells, where an operation stands at a type. Printed by wip/tools/types.py. -/
import Derived.Test.YtcjhgnbkdiopkaaAbs16
import Derived.Test.YtcjhgnbkdiopkaaProg
import Derived.KernelRfl
namespace Go.Proofs.Ytcjhgnbkdiopkaa.Abs
open Go Go.RowKit
set_option linter.unusedVariables false
theorem al27 : azero Try.prog 27 = some [(Value.int IntKind.i64 0), (Value.int IntKind.i64 0)] := by kernel_rfl
theorem al33 : azero Try.prog 33 = some [(Value.int IntKind.i64 0), (Value.int IntKind.i64 0), (Value.int IntKind.i64 0), (Value.int IntKind.i64 0), (Value.int IntKind.i64 0), (Value.int IntKind.i64 0)] := by kernel_rfl
theorem ss22 : sspec Try.prog 22 = some (6, 48, [(Value.int IntKind.i64 0), (Value.int IntKind.i64 0), (Value.int IntKind.i64 0), (Value.int IntKind.i64 0), (Value.int IntKind.i64 0), (Value.int IntKind.i64 0)]) := by kernel_rfl
theorem xs22_22 : xspec Try.prog 22 22 = true := by kernel_rfl
theorem ap22_22 {σ : Heap} {n o len c : Nat} {x : Value} : aappend Try.prog σ #[22, 22] (.slice (some ⟨n, o, none⟩) len c) x = (asrc σ 6 x).bind fun new => if (len + new.1) * 48 ≤ 140737488355328 then (if len = 0 ∧ c = 0 then some (.slice (some ⟨σ.length, 0, none⟩) new.1 (new.1 + 1), σ ++ [some ⟨new.2, true, 6⟩]) else (look σ n).bind fun b => if b.own = true ∧ b.sz = 6 ∧ b.cells.length = o + len * 6 then some (.slice (some ⟨σ.length, 0, none⟩) (len + new.1) (len + new.1 + 1), (σ.set n none) ++ [some ⟨b.cells.drop o ++ new.2, true, 6⟩]) else none) else none := append_p ss22 xs22_22
theorem an22_22 {σ : Heap} {x : Value} : aappend Try.prog σ #[22, 22] (.slice none 0 0) x = (asrc σ 6 x).bind fun new => if new.1 * 48 ≤ 140737488355328 then some (.slice (some ⟨σ.length, 0, none⟩) new.1 (new.1 + 1), σ ++ [some ⟨new.2, true, 6⟩]) else none := append_n ss22 xs22_22
theorem ss23 : sspec Try.prog 23 = some (1, 1, [(Value.bool false)]) := by kernel_rfl
theorem xs23_23 : xspec Try.prog 23 23 = true := by kernel_rfl
theorem ap23_23 {σ : Heap} {n o len c : Nat} {x : Value} : aappend Try.prog σ #[23, 23] (.slice (some ⟨n, o, none⟩) len c) x = (asrc σ 1 x).bind fun new => if (len + new.1) * 1 ≤ 140737488355328 then (if len = 0 ∧ c = 0 then some (.slice (some ⟨σ.length, 0, none⟩) new.1 (new.1 + 1), σ ++ [some ⟨new.2, true, 1⟩]) else (look σ n).bind fun b => if b.own = true ∧ b.sz = 1 ∧ b.cells.length = o + len * 1 then some (.slice (some ⟨σ.length, 0, none⟩) (len + new.1) (len + new.1 + 1), (σ.set n none) ++ [some ⟨b.cells.drop o ++ new.2, true, 1⟩]) else none) else none := append_p ss23 xs23_23
theorem an23_23 {σ : Heap} {x : Value} : aappend Try.prog σ #[23, 23] (.slice none 0 0) x = (asrc σ 1 x).bind fun new => if new.1 * 1 ≤ 140737488355328 then some (.slice (some ⟨σ.length, 0, none⟩) new.1 (new.1 + 1), σ ++ [some ⟨new.2, true, 1⟩]) else none := append_n ss23 xs23_23
theorem ss25 : sspec Try.prog 25 = some (1, 8, [(Value.int IntKind.i64 0)]) := by kernel_rfl
theorem xs25_25 : xspec Try.prog 25 25 = true := by kernel_rfl
theorem ap25_25 {σ : Heap} {n o len c : Nat} {x : Value} : aappend Try.prog σ #[25, 25] (.slice (some ⟨n, o, none⟩) len c) x = (asrc σ 1 x).bind fun new => if (len + new.1) * 8 ≤ 140737488355328 then (if len = 0 ∧ c = 0 then some (.slice (some ⟨σ.length, 0, none⟩) new.1 (new.1 + 1), σ ++ [some ⟨new.2, true, 1⟩]) else (look σ n).bind fun b => if b.own = true ∧ b.sz = 1 ∧ b.cells.length = o + len * 1 then some (.slice (some ⟨σ.length, 0, none⟩) (len + new.1) (len + new.1 + 1), (σ.set n none) ++ [some ⟨b.cells.drop o ++ new.2, true, 1⟩]) else none) else none := append_p ss25 xs25_25
theorem an25_25 {σ : Heap} {x : Value} : aappend Try.prog σ #[25, 25] (.slice none 0 0) x = (asrc σ 1 x).bind fun new => if new.1 * 8 ≤ 140737488355328 then some (.slice (some ⟨σ.length, 0, none⟩) new.1 (new.1 + 1), σ ++ [some ⟨new.2, true, 1⟩]) else none := append_n ss25 xs25_25
theorem bs27 : bspec Try.prog 27 = some ([(0, 1), (1, 1)], [(Value.int IntKind.i64 0), (Value.int IntKind.i64 0)]) := by kernel_rfl
theorem bd27 {parts : List (Nat × Value)} : abuild Try.prog 27 parts = (afill (fun i => ([(0, 1), (1, 1)] : List (Nat × Nat))[i]?) [(Value.int IntKind.i64 0), (Value.int IntKind.i64 0)] parts).map fun cs => .agg cs.toArray := build_s bs27
theorem bs33 : bspec Try.prog 33 = some ([(0, 1), (1, 1), (2, 1), (3, 1), (4, 1), (5, 1)], [(Value.int IntKind.i64 0), (Value.int IntKind.i64 0), (Value.int IntKind.i64 0), (Value.int IntKind.i64 0), (Value.int IntKind.i64 0), (Value.int IntKind.i64 0)]) := by kernel_rfl
theorem bd33 {parts : List (Nat × Value)} : abuild Try.prog 33 parts = (afill (fun i => ([(0, 1), (1, 1), (2, 1), (3, 1), (4, 1), (5, 1)] : List (Nat × Nat))[i]?) [(Value.int IntKind.i64 0), (Value.int IntKind.i64 0), (Value.int IntKind.i64 0), (Value.int IntKind.i64 0), (Value.int IntKind.i64 0), (Value.int IntKind.i64 0)] parts).map fun cs => .agg cs.toArray := build_s bs33
theorem bl22 {σ : Heap} {len : Nat} {parts : List (Nat × Value)} : abuildSlice Try.prog σ 22 len parts = if len * 6 ≤ 16777216 then (afill (fun i => some (i * 6, 6)) (List.replicate len [(Value.int IntKind.i64 0), (Value.int IntKind.i64 0), (Value.int IntKind.i64 0), (Value.int IntKind.i64 0), (Value.int IntKind.i64 0), (Value.int IntKind.i64 0)]).flatten parts).map fun cs => (.slice (some ⟨σ.length, 0, none⟩) len len, σ ++ [some ⟨cs, true, 6⟩]) else none := buildSlice_s ss22
theorem bl23 {σ : Heap} {len : Nat} {parts : List (Nat × Value)} : abuildSlice Try.prog σ 23 len parts = if len * 1 ≤ 16777216 then (afill (fun i => some (i * 1, 1)) (List.replicate len [(Value.bool false)]).flatten parts).map fun cs => (.slice (some ⟨σ.length, 0, none⟩) len len, σ ++ [some ⟨cs, true, 1⟩]) else none := buildSlice_s ss23
theorem bl25 {σ : Heap} {len : Nat} {parts : List (Nat × Value)} : abuildSlice Try.prog σ 25 len parts = if len * 1 ≤ 16777216 then (afill (fun i => some (i * 1, 1)) (List.replicate len [(Value.int IntKind.i64 0)]).flatten parts).map fun cs => (.slice (some ⟨σ.length, 0, none⟩) len len, σ ++ [some ⟨cs, true, 1⟩]) else none := buildSlice_s ss25
theorem un4 : Try.prog.underlying 4 = some .bool := by kernel_rfl
theorem eb4 {a b : Bool} : abin Try.prog .eql 4 (.bool a) (.bool b) = some (.bool (decide (a = b))) := eq_b un4
theorem nb4 {a b : Bool} : abin Try.prog .neq 4 (.bool a) (.bool b) = some (.bool (!decide (a = b))) := ne_b un4
theorem fa27_0 {n o : Nat} : afieldAddr Try.prog 27 (.pointer (some ⟨n, o, none⟩)) 0 = some (.pointer (some ⟨n, o + 0, none⟩)) := by kernel_rfl
theorem fa33_0 {n o : Nat} : afieldAddr Try.prog 33 (.pointer (some ⟨n, o, none⟩)) 0 = some (.pointer (some ⟨n, o + 0, none⟩)) := by kernel_rfl
theorem fa33_1 {n o : Nat} : afieldAddr Try.prog 33 (.pointer (some ⟨n, o, none⟩)) 1 = some (.pointer (some ⟨n, o + 1, none⟩)) := by kernel_rfl
theorem fa33_2 {n o : Nat} : afieldAddr Try.prog 33 (.pointer (some ⟨n, o, none⟩)) 2 = some (.pointer (some ⟨n, o + 2, none⟩)) := by kernel_rfl
theorem fa33_3 {n o : Nat} : afieldAddr Try.prog 33 (.pointer (some ⟨n, o, none⟩)) 3 = some (.pointer (some ⟨n, o + 3, none⟩)) := by kernel_rfl
theorem fa33_4 {n o : Nat} : afieldAddr Try.prog 33 (.pointer (some ⟨n, o, none⟩)) 4 = some (.pointer (some ⟨n, o + 4, none⟩)) := by kernel_rfl
theorem fa33_5 {n o : Nat} : afieldAddr Try.prog 33 (.pointer (some ⟨n, o, none⟩)) 5 = some (.pointer (some ⟨n, o + 5, none⟩)) := by kernel_rfl
theorem ix22 {k : IntKind} {n o len c : Nat} {i : Int} : aindexAddr Try.prog 22 (.slice (some ⟨n, o, none⟩) len c) (.int k i) = if 0 ≤ i ∧ i < (len : Int) then some (.pointer (some ⟨n, o + i.toNat * 6, none⟩)) else none := indexAddr_s ss22
theorem ix23 {k : IntKind} {n o len c : Nat} {i : Int} : aindexAddr Try.prog 23 (.slice (some ⟨n, o, none⟩) len c) (.int k i) = if 0 ≤ i ∧ i < (len : Int) then some (.pointer (some ⟨n, o + i.toNat * 1, none⟩)) else none := indexAddr_s ss23
theorem ix25 {k : IntKind} {n o len c : Nat} {i : Int} : aindexAddr Try.prog 25 (.slice (some ⟨n, o, none⟩) len c) (.int k i) = if 0 ≤ i ∧ i < (len : Int) then some (.pointer (some ⟨n, o + i.toNat * 1, none⟩)) else none := indexAddr_s ss25
theorem ln22 {a : Option Addr} {n c : Nat} : alen Try.prog #[22] [.slice a n c] = some (.int .i64 n) := len_s ss22
theorem ln23 {a : Option Addr} {n c : Nat} : alen Try.prog #[23] [.slice a n c] = some (.int .i64 n) := len_s ss23
theorem ln25 {a : Option Addr} {n c : Nat} : alen Try.prog #[25] [.slice a n c] = some (.int .i64 n) := len_s ss25
theorem ls27 : lspec Try.prog 27 = some (true, 2) := by kernel_rfl
theorem ld27 {σ : Heap} {n o : Nat} : aload Try.prog σ 27 (.pointer (some ⟨n, o, none⟩)) = (look σ n).bind fun b => if o + 2 ≤ b.cells.length then some (.agg ((b.cells.drop o).take 2).toArray) else none := load_a ls27
theorem ls3 : lspec Try.prog 3 = some (false, 1) := by kernel_rfl
theorem ld3 {σ : Heap} {n o : Nat} : aload Try.prog σ 3 (.pointer (some ⟨n, o, none⟩)) = (look σ n).bind fun b => b.cells[o]? := load_s ls3
theorem ls33 : lspec Try.prog 33 = some (true, 6) := by kernel_rfl
theorem ld33 {σ : Heap} {n o : Nat} : aload Try.prog σ 33 (.pointer (some ⟨n, o, none⟩)) = (look σ n).bind fun b => if o + 6 ≤ b.cells.length then some (.agg ((b.cells.drop o).take 6).toArray) else none := load_a ls33
theorem ls4 : lspec Try.prog 4 = some (false, 1) := by kernel_rfl
theorem ld4 {σ : Heap} {n o : Nat} : aload Try.prog σ 4 (.pointer (some ⟨n, o, none⟩)) = (look σ n).bind fun b => b.cells[o]? := load_s ls4
theorem ms23 {σ : Heap} {k k' : IntKind} {n : Int} : amakeSlice Try.prog σ 23 (.int k n) (.int k' n) = if 0 ≤ n ∧ n ≤ 140737488355328 ∧ n * (1 : Nat) ≤ 140737488355328 then some (.slice (some ⟨σ.length, 0, none⟩) n.toNat n.toNat, σ ++ [some ⟨(List.replicate n.toNat [(Value.bool false)]).flatten, true, 1⟩]) else none := makeSlice_s ss23
theorem ts27 : tspec Try.prog 27 = (true, 2) := by kernel_rfl
theorem st27 {σ : Heap} {n o : Nat} {v : Value} : astore Try.prog σ 27 (.pointer (some ⟨n, o, none⟩)) v = (look σ n).bind fun b => if b.own = true ∧ (cl v).length = 2 ∧ o + (cl v).length ≤ b.cells.length ∧ lone v = true then some (σ.set n (some { b with cells := setAll b.cells o (cl v) })) else none := store_s ts27
theorem ts3 : tspec Try.prog 3 = (true, 1) := by kernel_rfl
theorem st3 {σ : Heap} {n o : Nat} {v : Value} : astore Try.prog σ 3 (.pointer (some ⟨n, o, none⟩)) v = (look σ n).bind fun b => if b.own = true ∧ (cl v).length = 1 ∧ o + (cl v).length ≤ b.cells.length ∧ lone v = true then some (σ.set n (some { b with cells := setAll b.cells o (cl v) })) else none := store_s ts3
theorem ts33 : tspec Try.prog 33 = (true, 6) := by kernel_rfl
theorem st33 {σ : Heap} {n o : Nat} {v : Value} : astore Try.prog σ 33 (.pointer (some ⟨n, o, none⟩)) v = (look σ n).bind fun b => if b.own = true ∧ (cl v).length = 6 ∧ o + (cl v).length ≤ b.cells.length ∧ lone v = true then some (σ.set n (some { b with cells := setAll b.cells o (cl v) })) else none := store_s ts33
theorem ts4 : tspec Try.prog 4 = (true, 1) := by kernel_rfl
theorem st4 {σ : Heap} {n o : Nat} {v : Value} : astore Try.prog σ 4 (.pointer (some ⟨n, o, none⟩)) v = (look σ n).bind fun b => if b.own = true ∧ (cl v).length = 1 ∧ o + (cl v).length ≤ b.cells.length ∧ lone v = true then some (σ.set n (some { b with cells := setAll b.cells o (cl v) })) else none := store_s ts4
attribute [go_sem] al27 al33 ap22_22 an22_22 ap23_23 an23_23 ap25_25 an25_25 bd27 bd33 bl22 bl23 bl25 eb4 nb4 fa27_0 fa33_0 fa33_1 fa33_2 fa33_3 fa33_4 fa33_5 ix22 ix23 ix25 ln22 ln23 ln25 ld27 ld3 ld33 ld4 ms23 st27 st3 st33 st4
end Go.Proofs.Ytcjhgnbkdiopkaa.Abs
