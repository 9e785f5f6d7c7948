import Derived.Test.YtkgdkommahgakaaDoorGlob
namespace Go.Proofs.YtkgdkommahgakaaDoor.Abs
open Go Go.RowKit
set_option linter.unusedVariables false

theorem rd31 {σ : Heap} {d : Nat} {cs : List Value} (h : RD Tryd.prog σ d 31 cs) : ∃ x : Tk, cs = x.cells ∧ x.text.length ≤ 140737488351232 ∧ (-9223372036854775808 ≤ x.value ∧ x.value ≤ 9223372036854775807) := by
  obtain ⟨d', h⟩ := RD_struct (ts := [3, 9, 3, 3]) (by kernel_rfl) h
  obtain ⟨r1, _, h⟩ := RDF_cons (C := 1) (by kernel_rfl) h
  obtain ⟨r2, _, h⟩ := RDF_cons (C := 1) (by kernel_rfl) h
  obtain ⟨r3, _, h⟩ := RDF_cons (C := 1) (by kernel_rfl) h
  obtain ⟨r4, _, h⟩ := RDF_cons (C := 1) (by kernel_rfl) h
  obtain ⟨n1, e1, w1⟩ := RD_int (k := .i64) (by kernel_rfl) r1
  obtain ⟨s2, e2, w2⟩ := RD_string (by kernel_rfl) r2
  obtain ⟨n3, e3, w3⟩ := RD_int (k := .i64) (by kernel_rfl) r3
  obtain ⟨n4, e4, w4⟩ := RD_int (k := .i64) (by kernel_rfl) r4
  have es : s2 = str s2.data.toList := str_of rfl
  refine ⟨⟨n1, s2.data.toList, n3, n4⟩, ?_, by simpa using w2, ?_⟩
  · simp only [List.drop_drop] at h
    have h' : cs.drop 4 = [] := h
    simp only [List.drop_drop] at e2 e3 e4
    have e : cs = cs.take 1 ++ ((cs.drop 1).take 1 ++ ((cs.drop 2).take 1 ++ ((cs.drop 3).take 1 ++ cs.drop 4))) := by
      have hd : ∀ k, cs.drop k = (cs.drop k).take 1 ++ cs.drop (k + 1) := fun k => by rw [← List.drop_drop]; exact (List.take_append_drop 1 _).symm
      rw [← hd 3, ← hd 2, ← hd 1]
      exact (List.take_append_drop 1 cs).symm
    rw [e, e1, e2, e3, e4, h', es]
    rfl
  · simp [Lit.wf] at w3
    exact ⟨w3.1, w3.2⟩
theorem toks_of {σ : Heap} {d : Nat} {v : Value} (h : RD Tryd.prog σ d 22 [v]) : ∃ (n : Nat) (L : List Tk), v = .slice (some ⟨n, 0, none⟩) L.length (L.length + 1) ∧ look σ n = some ⟨L.flatMap Tk.cells, false, 4⟩ ∧ L.length * 40 ≤ 140737488351232 ∧
    ∀ x ∈ L, x.text.length ≤ 140737488351232 ∧ (-9223372036854775808 ≤ x.value ∧ x.value ≤ 9223372036854775807) := by
  obtain ⟨n, L, h1, h2, h3, h4⟩ := RD_slice (e := 31) (C := 4) (B := 40) Tk.cells (fun x => x.text.length ≤ 140737488351232 ∧ (-9223372036854775808 ≤ x.value ∧ x.value ≤ 9223372036854775807)) (by kernel_rfl) (by kernel_rfl) (by kernel_rfl) (fun _ => rfl) h fun d' cs hr => rd31 hr
  exact ⟨n, L, by simpa using h1, h2, h3, h4⟩
end Go.Proofs.YtkgdkommahgakaaDoor.Abs
