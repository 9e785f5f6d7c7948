import Derived.Test.YtkgdkommahgakaaDoorArgs
namespace Go.Proofs.YtkgdkommahgakaaDoor.Abs
open Go Go.RowKit
set_option linter.unusedVariables false

theorem cut1 {α : Type} (cs : List α) (k : Nat) : cs.drop k = (cs.drop k).take 1 ++ cs.drop (k + 1) := by rw [← List.drop_drop]; exact (List.take_append_drop 1 _).symm
theorem rd74 {σ : Heap} {d : Nat} {cs : List Value} (h : RD Tryd.prog σ d 74 cs) : ∃ x : Nd, cs = x.cells ∧ x.name.length ≤ 140737488351232 := by
  obtain ⟨d', h⟩ := RD_struct (ts := [3, 3, 9, 3, 3]) (by kernel_rfl) h
  obtain ⟨r1, _, h⟩ := RDF_cons (C := 1) (by kernel_rfl) h
  obtain ⟨r2, _, h⟩ := RDF_cons (C := 1) (by kernel_rfl) h
  obtain ⟨r3, _, h⟩ := RDF_cons (C := 1) (by kernel_rfl) h
  obtain ⟨r4, _, h⟩ := RDF_cons (C := 1) (by kernel_rfl) h
  obtain ⟨r5, _, h⟩ := RDF_cons (C := 1) (by kernel_rfl) h
  obtain ⟨n1, e1, _⟩ := RD_int (k := .i64) (by kernel_rfl) r1
  obtain ⟨n2, e2, _⟩ := RD_int (k := .i64) (by kernel_rfl) r2
  obtain ⟨s3, e3, w3⟩ := RD_string (by kernel_rfl) r3
  obtain ⟨n4, e4, _⟩ := RD_int (k := .i64) (by kernel_rfl) r4
  obtain ⟨n5, e5, _⟩ := RD_int (k := .i64) (by kernel_rfl) r5
  have es : s3 = str s3.data.toList := str_of rfl
  refine ⟨⟨n1, n2, s3.data.toList, n4, n5⟩, ?_, by simpa using w3⟩
  simp only [List.drop_drop] at h e2 e3 e4 e5
  have h' : cs.drop 5 = [] := h
  have e : cs = cs.take 1 ++ ((cs.drop 1).take 1 ++ ((cs.drop 2).take 1 ++ ((cs.drop 3).take 1 ++ ((cs.drop 4).take 1 ++ cs.drop 5)))) := by
    rw [← cut1 cs 4, ← cut1 cs 3, ← cut1 cs 2, ← cut1 cs 1]
    exact (List.take_append_drop 1 cs).symm
  rw [e, e1, e2, e3, e4, e5, h', es]
  rfl
theorem nds_of {σ : Heap} {d : Nat} {v : Value} (h : RD Tryd.prog σ d 24 [v]) : ∃ (n : Nat) (L : List Nd), v = .slice (some ⟨n, 0, none⟩) L.length (L.length + 1) ∧ look σ n = some ⟨L.flatMap Nd.cells, false, 5⟩ ∧ L.length * 48 ≤ 140737488351232 ∧
    ∀ x ∈ L, x.name.length ≤ 140737488351232 := by
  obtain ⟨n, L, h1, h2, h3, h4⟩ := RD_slice (e := 74) (C := 5) (B := 48) Nd.cells (fun x => x.name.length ≤ 140737488351232) (by kernel_rfl) (by kernel_rfl) (by kernel_rfl) (fun _ => rfl) h fun d' cs hr => rd74 hr
  exact ⟨n, L, by simpa using h1, h2, h3, h4⟩
theorem rd40 {σ : Heap} {d : Nat} {cs : List Value} (h : RD Tryd.prog σ d 40 cs) : ∃ x : Lin, cs = x.cells ∧ x.sym.length ≤ 140737488351232 ∧ x.minus.length ≤ 140737488351232 := by
  obtain ⟨d', h⟩ := RD_struct (ts := [9, 9, 3]) (by kernel_rfl) h
  obtain ⟨r1, _, h⟩ := RDF_cons (C := 1) (by kernel_rfl) h
  obtain ⟨r2, _, h⟩ := RDF_cons (C := 1) (by kernel_rfl) h
  obtain ⟨r3, _, h⟩ := RDF_cons (C := 1) (by kernel_rfl) h
  obtain ⟨s1, e1, w1⟩ := RD_string (by kernel_rfl) r1
  obtain ⟨s2, e2, w2⟩ := RD_string (by kernel_rfl) r2
  obtain ⟨n3, e3, _⟩ := RD_int (k := .i64) (by kernel_rfl) r3
  refine ⟨⟨s1.data.toList, s2.data.toList, n3⟩, ?_, by simpa using w1, by simpa using w2⟩
  simp only [List.drop_drop] at h e2 e3
  have h' : cs.drop 3 = [] := h
  have e : cs = cs.take 1 ++ ((cs.drop 1).take 1 ++ ((cs.drop 2).take 1 ++ cs.drop 3)) := by
    rw [← cut1 cs 2, ← cut1 cs 1]
    exact (List.take_append_drop 1 cs).symm
  rw [e, e1, e2, e3, h', show s1 = str s1.data.toList from str_of rfl, show s2 = str s2.data.toList from str_of rfl]
  rfl
theorem rd47 {σ : Heap} {d : Nat} {cs : List Value} (h : RD Tryd.prog σ d 47 cs) : ∃ x : Sy, cs = x.cells ∧ x.few := by
  obtain ⟨d', h⟩ := RD_struct (ts := [9, 40]) (by kernel_rfl) h
  obtain ⟨r1, _, h⟩ := RDF_cons (C := 1) (by kernel_rfl) h
  obtain ⟨r2, _, h⟩ := RDF_cons (C := 3) (by kernel_rfl) h
  obtain ⟨s1, e1, w1⟩ := RD_string (by kernel_rfl) r1
  obtain ⟨l, e2, w2, w3⟩ := rd40 r2
  refine ⟨⟨s1.data.toList, l⟩, ?_, by simpa using w1, w2, w3⟩
  simp only [List.drop_drop] at h e2
  have h' : cs.drop 4 = [] := h
  have e : cs = cs.take 1 ++ ((cs.drop 1).take 3 ++ cs.drop 4) := by
    rw [show cs.drop 4 = (cs.drop 1).drop 3 by rw [List.drop_drop], List.take_append_drop, List.take_append_drop]
  rw [e, e1, e2, h', show s1 = str s1.data.toList from str_of rfl]
  rfl
theorem syms_of {σ : Heap} {d : Nat} {v : Value} (h : RD Tryd.prog σ d 38 [v]) : ∃ (n : Nat) (L : List Sy), v = .slice (some ⟨n, 0, none⟩) L.length (L.length + 1) ∧ look σ n = some ⟨L.flatMap Sy.cells, false, 4⟩ ∧ L.length * 56 ≤ 140737488351232 ∧
    ∀ x ∈ L, x.few := by
  obtain ⟨n, L, h1, h2, h3, h4⟩ := RD_slice (e := 47) (C := 4) (B := 56) Sy.cells Sy.few (by kernel_rfl) (by kernel_rfl) (by kernel_rfl) (fun _ => rfl) h fun d' cs hr => rd47 hr
  exact ⟨n, L, by simpa using h1, h2, h3, h4⟩
end Go.Proofs.YtkgdkommahgakaaDoor.Abs
