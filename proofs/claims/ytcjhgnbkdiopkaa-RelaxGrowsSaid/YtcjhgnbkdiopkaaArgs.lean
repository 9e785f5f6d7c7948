import Derived.Test.YtcjhgnbkdiopkaaAbs18
import Derived.Test.YtcjhgnbkdiopkaaFrag
namespace Go.Proofs.Ytcjhgnbkdiopkaa.Abs
open Go Go.RowKit
set_option linter.unusedVariables false

theorem rd33 {σ : Heap} {d : Nat} {cs : List Value} (h : RD Try.prog σ d 33 cs) : ∃ x : Frag, cs = x.cells ∧ (Lit.int .i64 x.size).wf = true := by
  obtain ⟨d', h⟩ := RD_struct (ts := [3, 3, 3, 3, 3, 3]) (by kernel_rfl) h
  obtain ⟨r1, _, h⟩ := RDF_cons (C := 1) (by kernel_rfl) h
  obtain ⟨r2, _, h⟩ := RDF_cons (C := 1) (by kernel_rfl) h
  obtain ⟨r3, _, h⟩ := RDF_cons (C := 1) (by kernel_rfl) h
  obtain ⟨r4, _, h⟩ := RDF_cons (C := 1) (by kernel_rfl) h
  obtain ⟨r5, _, h⟩ := RDF_cons (C := 1) (by kernel_rfl) h
  obtain ⟨r6, _, h⟩ := RDF_cons (C := 1) (by kernel_rfl) h
  obtain ⟨n1, e1, w1⟩ := RD_int Try.underlying3 r1
  obtain ⟨n2, e2, w2⟩ := RD_int Try.underlying3 r2
  obtain ⟨n3, e3, w3⟩ := RD_int Try.underlying3 r3
  obtain ⟨n4, e4, w4⟩ := RD_int Try.underlying3 r4
  obtain ⟨n5, e5, w5⟩ := RD_int Try.underlying3 r5
  obtain ⟨n6, e6, w6⟩ := RD_int Try.underlying3 r6
  refine ⟨⟨n1, n2, n3, n4, n5, n6⟩, ?_, w2⟩
  simp only [List.drop_drop] at h
  have h' : cs.drop 6 = [] := h
  simp only [List.drop_drop] at e2 e3 e4 e5 e6
  have e : cs = cs.take 1 ++ ((cs.drop 1).take 1 ++ ((cs.drop 2).take 1 ++ ((cs.drop 3).take 1 ++ ((cs.drop 4).take 1 ++ ((cs.drop 5).take 1 ++ cs.drop 6))))) := by
    have hd : ∀ k, cs.drop k = (cs.drop k).take 1 ++ cs.drop (k + 1) := fun k => by rw [← List.drop_drop]; exact (List.take_append_drop 1 _).symm
    rw [← hd 5, ← hd 4, ← hd 3, ← hd 2, ← hd 1]
    exact (List.take_append_drop 1 cs).symm
  rw [e, e1, e2, e3, e4, e5, e6, h']
  rfl
theorem frags_of {σ : Heap} {d : Nat} {v : Value} (h : RD Try.prog σ d 22 [v]) : ∃ (n : Nat) (L : List Frag), v = .slice (some ⟨n, 0, none⟩) L.length (L.length + 1) ∧ look σ n = some ⟨L.flatMap Frag.cells, false, 6⟩ ∧ L.length * 48 ≤ 140737488351232 := by
  obtain ⟨n, L, h1, h2, h3, h4⟩ := RD_slice (e := 33) (C := 6) (B := 48) Frag.cells (fun _ => True) (by kernel_rfl) (by kernel_rfl) (by kernel_rfl) (fun _ => rfl) h fun d' cs hr => by
    obtain ⟨x, hx, _⟩ := rd33 hr
    exact ⟨x, hx, trivial⟩
  exact ⟨n, L, by simpa using h1, h2, h3⟩
theorem bools_of {σ : Heap} {d : Nat} {v : Value} (h : RD Try.prog σ d 23 [v]) : ∃ (n : Nat) (B : List Bool), v = .slice (some ⟨n, 0, none⟩) B.length (B.length + 1) ∧ look σ n = some ⟨B.map .bool, false, 1⟩ ∧ B.length * 1 ≤ 140737488351232 := by
  obtain ⟨n, L, h1, h2, h3, h4⟩ := RD_slice (e := 4) (C := 1) (B := 1) (fun b => [Value.bool b]) (fun _ => True) (by kernel_rfl) (by kernel_rfl) (by kernel_rfl) (fun _ => rfl) h fun d' cs hr => by
    obtain ⟨x, hx⟩ := RD_bool Try.underlying4 hr
    exact ⟨x, hx, trivial⟩
  rw [flatMap_single] at h2
  exact ⟨n, L, by simpa using h1, h2, h3⟩
end Go.Proofs.Ytcjhgnbkdiopkaa.Abs
