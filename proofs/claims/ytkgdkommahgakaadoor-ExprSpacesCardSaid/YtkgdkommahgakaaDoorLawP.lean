import Derived.Test.YtkgdkommahgakaaDoorSame
namespace Go.Proofs.YtkgdkommahgakaaDoor.Abs
open Go Go.RowKit Gram
set_option linter.unusedVariables false
set_option linter.unusedSimpArgs false
set_option maxRecDepth 100000

theorem parseV_split {L : List Tk} {b : Nat} {v : Value} {ρ : Heap} (h : ParseV L b v ρ) : ∃ (E : List Nd) (e : Value) (cd ix : Int), v = .tuple #[e, faultV (cd, ix)] ∧ NB ρ E e ∧ (∀ i, badTok L = some i → E = [] ∧ cd = 5 ∧ ix = i) ∧
    (badTok L = none → ∀ t, parseOf L = some t → E = post t [] ∧ cd = 0) ∧ (badTok L = none → parseOf L = none → E = [] ∧ cd ≠ 0 ∧ 0 ≤ ix ∧ ix ≤ L.length) := by
  unfold ParseV at h
  split at h
  · rename_i i hi
    exact ⟨[], _, _, _, h, .inl ⟨rfl, rfl⟩, fun j hj => ⟨rfl, rfl, by rw [hi] at hj; rw [Option.some.inj hj]⟩, fun hh => by rw [hi] at hh; simp at hh, fun hh => by rw [hi] at hh; simp at hh⟩
  · rename_i hb
    split at h
    · rename_i t ht
      obtain ⟨q, c, h1, _, h2⟩ := h
      have hl : (post t []).length = t.size := by rw [post_len]; simp
      refine ⟨post t [], _, _, _, h1, .inr ⟨q, c, _, _, by rw [hl], h2⟩, fun j hj => by rw [hb] at hj; simp at hj, fun _ t' ht' => ?_, fun _ hn => by rw [ht] at hn; simp at hn⟩
      rw [ht] at ht'
      rw [Option.some.inj ht']
      exact ⟨rfl, rfl⟩
    · rename_i ht
      obtain ⟨cd, ix, h1, h2, h3, h4⟩ := h
      exact ⟨[], _, _, _, h1, .inl ⟨rfl, rfl⟩, fun j hj => by rw [hb] at hj; simp at hj, fun _ t' ht' => by rw [ht] at ht'; simp at ht', fun _ _ => ⟨rfl, h2, h3, h4⟩⟩
/-- The length of what stands there. -/
theorem NB.len {σ : Heap} {L : List Nd} {v : Value} (h : NB σ L v) : alen Tryd.prog #[24] [v] = some (.int .i64 L.length) := by
  rcases h with ⟨rfl, rfl⟩ | ⟨n, c, ow, sz, rfl, _⟩ <;> simp only [go_sem, ↓reduceIte, Nat.reduceEqDiff, Nat.reduceAdd, Nat.reduceMul, Nat.reduceLT, Nat.reduceLeDiff, Int.reduceLT, Int.reduceLE, Int.reduceNeg, Int.reduceAdd, Int.reduceSub, Int.reduceMul, Int.reduceToNat, Int.reduceEq, Int.reduceNe, Int.cast_ofNat_Int, Int.natCast_one, Int.natCast_zero, Int.natCast_add, reduceCtorEq, List.length_nil, Int.natCast_zero]

set_option maxHeartbeats 2000000 in
theorem f3_ok (L : List Tk) (n c : Nat) (sz : Nat) (σ : Heap) (hl : look σ n = some ⟨L.flatMap Tk.cells, false, sz⟩) (hG : GL σ) (hz : L.length * 40 ≤ 140737488351232) (ht : ∀ x ∈ L, x.text.length ≤ 140737488351232) (hv : ∀ x ∈ L, -9223372036854775808 ≤ x.value ∧ x.value ≤ 9223372036854775807) :
    CW Tryd.prog XL 3 [.slice (some ⟨n, 0, none⟩) L.length c] σ fun v σ' => v = .bool true ∧ σ <+: σ' := by
  refine cw_in Tryd.func3 rfl Tryd.ntmps3 (rs := [.tmp 2]) rfl (by kernel_rfl) (by exact Nat.le_of_ble_eq_true rfl) ?_
  have hn := look_lt hl
  have htl := Tk.len L
  simp only [go_sem, ↓reduceIte, Nat.reduceEqDiff, Nat.reduceAdd, Nat.reduceMul, Nat.reduceLT, Nat.reduceLeDiff, Int.reduceLT, Int.reduceLE, Int.reduceNeg, Int.reduceAdd, Int.reduceSub, Int.reduceMul, Int.reduceToNat, Int.reduceEq, Int.reduceNe, Int.cast_ofNat_Int, Int.natCast_one, Int.natCast_zero, Int.natCast_add, reduceCtorEq]
  refine (f17_ok σ hG).mono ?_
  rintro _ ρ0 ⟨rfl, hp0⟩
  simp only [go_sem, ↓reduceIte, Nat.reduceEqDiff, Nat.reduceAdd, Nat.reduceMul, Nat.reduceLT, Nat.reduceLeDiff, Int.reduceLT, Int.reduceLE, Int.reduceNeg, Int.reduceAdd, Int.reduceSub, Int.reduceMul, Int.reduceToNat, Int.reduceEq, Int.reduceNe, Int.cast_ofNat_Int, Int.natCast_one, Int.natCast_zero, Int.natCast_add, reduceCtorEq]
  refine (f18_ok L n c false sz ρ0 (look_prefix hp0 hl) (hG.mono hp0) (by omega) ht).mono ?_
  rintro v ρ ⟨hP, hp⟩
  obtain ⟨E, e, cd, ix, rfl, hE, hbad, hgood, hnone⟩ := parseV_split hP
  have hp1 : σ <+: ρ := hp0.trans hp
  have hfb : look (ρ ++ [some ⟨[.int .i64 cd, .int .i64 ix], true, 0⟩]) ρ.length = some ⟨[.int .i64 cd, .int .i64 ix], true, 0⟩ := by rw [look_app_new, look_zero]
  have hp2 : σ <+: ρ ++ [some ⟨[.int .i64 cd, .int .i64 ix], true, 0⟩] := hp1.trans (List.prefix_append _ _)
  have hE2 : NB (ρ ++ [some ⟨[.int .i64 cd, .int .i64 ix], true, 0⟩]) E e := hE.mono (List.prefix_append _ _)
  simp only [go_sem, ↓reduceIte, Nat.reduceEqDiff, Nat.reduceAdd, Nat.reduceMul, Nat.reduceLT, Nat.reduceLeDiff, Int.reduceLT, Int.reduceLE, Int.reduceNeg, Int.reduceAdd, Int.reduceSub, Int.reduceMul, Int.reduceToNat, Int.reduceEq, Int.reduceNe, Int.cast_ofNat_Int, Int.natCast_one, Int.natCast_zero, Int.natCast_add, reduceCtorEq, faultV]
  generalize ρ.length = f at *
  generalize ρ ++ [some ⟨[.int .i64 cd, .int .i64 ix], true, 0⟩] = σ1 at *
  refine LW_run (fun k T ρ => ∃ i : Nat, i + k = L.length ∧ σ1 <+: ρ ∧ T 0 = .slice (some ⟨n, 0, none⟩) L.length c ∧ T 3 = e ∧ T 4 = .pointer (some ⟨f, 0, none⟩) ∧ T 5 = .int .i64 i ∧ ∀ y ∈ L.take i, validT y = true) L.length ⟨0, by simp, List.prefix_rfl, rfl, rfl, rfl, rfl, by simp⟩ ?_
  rintro k T ρ2 ⟨i, hk, hq, t0, t3, t4, t5, hva⟩
  have hl2 := look_prefix (hp2.trans hq) hl
  have hf2 := look_prefix hq hfb
  have hE3 := hE2.mono hq
  have hn2 := look_lt hl2
  have hfl2 := look_lt hf2
  have hlen := hE3.len
  simp only [go_sem, ↓reduceIte, Nat.reduceEqDiff, Nat.reduceAdd, Nat.reduceMul, Nat.reduceLT, Nat.reduceLeDiff, Int.reduceLT, Int.reduceLE, Int.reduceNeg, Int.reduceAdd, Int.reduceSub, Int.reduceMul, Int.reduceToNat, Int.reduceEq, Int.reduceNe, Int.cast_ofNat_Int, Int.natCast_one, Int.natCast_zero, Int.natCast_add, reduceCtorEq, t0, t3, t4, t5]
  refine fork_dec (fun _ => ?_) (fun _ => ?_)
  · rename_i hi
    obtain ⟨x, hx⟩ : ∃ x, L[i]? = some x := ⟨_, List.getElem?_eq_getElem (by omega)⟩
    have hw : IntKind.i64.wrap ((i : Int) + 1) = (i : Int) + 1 := wrap64 (by omega)
    simp only [go_sem, ↓reduceIte, Nat.reduceEqDiff, Nat.reduceAdd, Nat.reduceMul, Nat.reduceLT, Nat.reduceLeDiff, Int.reduceLT, Int.reduceLE, Int.reduceNeg, Int.reduceAdd, Int.reduceSub, Int.reduceMul, Int.reduceToNat, Int.reduceEq, Int.reduceNe, Int.cast_ofNat_Int, Int.natCast_one, Int.natCast_zero, Int.natCast_add, reduceCtorEq, t0, t3, t4, t5, hi, hl2, Tk.take hx, htl, show i * 4 + 4 ≤ L.length * 4 by omega]
    refine (f19_ok XL x (ht x (List.mem_of_getElem? hx)) (hv x (List.mem_of_getElem? hx)) _).mono ?_
    rintro _ ρ3 ⟨rfl, hp3⟩
    cases hvx : validT x with
    | false =>
      have hbt := bad_hit hx hva hvx
      obtain ⟨rfl, rfl, rfl⟩ := hbad i hbt
      have hf3 := look_prefix hp3 hf2
      simp only [go_sem, ↓reduceIte, Nat.reduceEqDiff, Nat.reduceAdd, Nat.reduceMul, Nat.reduceLT, Nat.reduceLeDiff, Int.reduceLT, Int.reduceLE, Int.reduceNeg, Int.reduceAdd, Int.reduceSub, Int.reduceMul, Int.reduceToNat, Int.reduceEq, Int.reduceNe, Int.cast_ofNat_Int, Int.natCast_one, Int.natCast_zero, Int.natCast_add, reduceCtorEq, t0, t3, t4, t5, hf3]
      refine (f20_ok XL 5 i _).mono ?_
      rintro _ ρ4 ⟨rfl, hp4⟩
      simp only [go_sem, ↓reduceIte, Nat.reduceEqDiff, Nat.reduceAdd, Nat.reduceMul, Nat.reduceLT, Nat.reduceLeDiff, Int.reduceLT, Int.reduceLE, Int.reduceNeg, Int.reduceAdd, Int.reduceSub, Int.reduceMul, Int.reduceToNat, Int.reduceEq, Int.reduceNe, Int.cast_ofNat_Int, Int.natCast_one, Int.natCast_zero, Int.natCast_add, reduceCtorEq, t0, t3, t4, t5, hlen, List.length_nil, Int.natCast_zero]
      refine ⟨quiet_pre hp4, ?_⟩
      exact ((hp2.trans hq).trans hp3).trans hp4
    | true =>
      simp only [go_sem, ↓reduceIte, Nat.reduceEqDiff, Nat.reduceAdd, Nat.reduceMul, Nat.reduceLT, Nat.reduceLeDiff, Int.reduceLT, Int.reduceLE, Int.reduceNeg, Int.reduceAdd, Int.reduceSub, Int.reduceMul, Int.reduceToNat, Int.reduceEq, Int.reduceNe, Int.cast_ofNat_Int, Int.natCast_one, Int.natCast_zero, Int.natCast_add, reduceCtorEq, t0, t3, t4, t5, hw]
      refine ⟨k - 1, by omega, i + 1, by omega, hq.trans hp3, ?_⟩
      (repeat' (first | exact rfl | apply And.intro))
      exact take_valid hx hva hvx
  · rename_i hi
    simp only [go_sem, ↓reduceIte, Nat.reduceEqDiff, Nat.reduceAdd, Nat.reduceMul, Nat.reduceLT, Nat.reduceLeDiff, Int.reduceLT, Int.reduceLE, Int.reduceNeg, Int.reduceAdd, Int.reduceSub, Int.reduceMul, Int.reduceToNat, Int.reduceEq, Int.reduceNe, Int.cast_ofNat_Int, Int.natCast_one, Int.natCast_zero, Int.natCast_add, reduceCtorEq, t0, t3, t4, t5]
    rw [List.take_of_length_le (by omega)] at hva
    have hbt := bad_none hva
    have hN := nodes_all (L.length + 1) (σ0 := ρ2) (σ := ρ2) (n := n) (o := 0) (c := c) (la := L.length) (L := L) 0 (out := []) (nv := .slice none 0 0) (win_whole hl2 (.inl rfl)) hva List.prefix_rfl (.inl ⟨rfl, rfl⟩) (by omega) rfl (by omega) (by simp; omega)
    refine hN.mono ?_
    rintro v ρ3 ⟨hp3, hv3⟩
    have hf3 := look_prefix hp3 hf2
    have hE4 := hE3.mono hp3
    have hlen4 := hE4.len
    cases hno : nodesOf L with
    | none =>
      have hpn : parseOf L = none := by
        cases h : parseOf L with
        | none => rfl
        | some t => rw [((parse_nodes L t).1 h).1] at hno; simp at hno
      obtain ⟨rfl, hcd, hi0, hi1⟩ := hnone hbt hpn
      unfold nodesOf at hno
      rw [hno] at hv3
      simp only at hv3
      subst hv3
      simp only [go_sem, ↓reduceIte, Nat.reduceEqDiff, Nat.reduceAdd, Nat.reduceMul, Nat.reduceLT, Nat.reduceLeDiff, Int.reduceLT, Int.reduceLE, Int.reduceNeg, Int.reduceAdd, Int.reduceSub, Int.reduceMul, Int.reduceToNat, Int.reduceEq, Int.reduceNe, Int.cast_ofNat_Int, Int.natCast_one, Int.natCast_zero, Int.natCast_add, reduceCtorEq, t0, t3, t4, t5, hf3, eq_false hcd]
      refine (f22_ok XL ix 0 L.length _).mono ?_
      rintro _ _ ⟨rfl, rfl⟩
      simp only [go_sem, ↓reduceIte, Nat.reduceEqDiff, Nat.reduceAdd, Nat.reduceMul, Nat.reduceLT, Nat.reduceLeDiff, Int.reduceLT, Int.reduceLE, Int.reduceNeg, Int.reduceAdd, Int.reduceSub, Int.reduceMul, Int.reduceToNat, Int.reduceEq, Int.reduceNe, Int.cast_ofNat_Int, Int.natCast_one, Int.natCast_zero, Int.natCast_add, reduceCtorEq, t0, t3, t4, t5, eq_true (And.intro hi0 hi1), hlen4, List.length_nil, Int.natCast_zero]
      exact (hp2.trans hq).trans hp3
    | some t =>
      have hno2 := hno
      unfold nodesOf at hno2
      rw [hno2] at hv3
      obtain ⟨nv', rfl, hnv⟩ := hv3
      have hnb := hnv.nb
      have hlw := hnb.len
      have hpl : (post t []).length = t.size := by rw [post_len]; simp
      by_cases h60 : t.size ≤ 60
      · have hpt := (parse_nodes L t).2 ⟨hno, h60⟩
        obtain ⟨rfl, rfl⟩ := hgood hbt t hpt
        simp only [go_sem, ↓reduceIte, Nat.reduceEqDiff, Nat.reduceAdd, Nat.reduceMul, Nat.reduceLT, Nat.reduceLeDiff, Int.reduceLT, Int.reduceLE, Int.reduceNeg, Int.reduceAdd, Int.reduceSub, Int.reduceMul, Int.reduceToNat, Int.reduceEq, Int.reduceNe, Int.cast_ofNat_Int, Int.natCast_one, Int.natCast_zero, Int.natCast_add, reduceCtorEq, t0, t3, t4, t5, hf3, hlw, eq_false (show ¬ (60 : Int) < ((post t []).length : Int) by omega)]
        refine (f23_ok XL (post t []) (post t []) e nv' _ hE4 hnb (by omega) (by omega)).mono ?_
        rintro _ ρ4 ⟨rfl, hp4⟩
        simp only [go_sem, ↓reduceIte, Nat.reduceEqDiff, Nat.reduceAdd, Nat.reduceMul, Nat.reduceLT, Nat.reduceLeDiff, Int.reduceLT, Int.reduceLE, Int.reduceNeg, Int.reduceAdd, Int.reduceSub, Int.reduceMul, Int.reduceToNat, Int.reduceEq, Int.reduceNe, Int.cast_ofNat_Int, Int.natCast_one, Int.natCast_zero, Int.natCast_add, reduceCtorEq, t0, t3, t4, t5]
        exact ((hp2.trans hq).trans hp3).trans hp4
      · have hpn : parseOf L = none := by
          cases h : parseOf L with
          | none => rfl
          | some t' =>
            have h2 := (parse_nodes L t').1 h
            rw [hno] at h2
            rw [Option.some.inj h2.1] at h60
            exact absurd h2.2 h60
        obtain ⟨rfl, hcd, hi0, hi1⟩ := hnone hbt hpn
        simp only [go_sem, ↓reduceIte, Nat.reduceEqDiff, Nat.reduceAdd, Nat.reduceMul, Nat.reduceLT, Nat.reduceLeDiff, Int.reduceLT, Int.reduceLE, Int.reduceNeg, Int.reduceAdd, Int.reduceSub, Int.reduceMul, Int.reduceToNat, Int.reduceEq, Int.reduceNe, Int.cast_ofNat_Int, Int.natCast_one, Int.natCast_zero, Int.natCast_add, reduceCtorEq, t0, t3, t4, t5, hf3, hlw, eq_true (show (60 : Int) < ((post t []).length : Int) by omega), eq_false hcd]
        refine (f22_ok XL ix 0 L.length _).mono ?_
        rintro _ _ ⟨rfl, rfl⟩
        simp only [go_sem, ↓reduceIte, Nat.reduceEqDiff, Nat.reduceAdd, Nat.reduceMul, Nat.reduceLT, Nat.reduceLeDiff, Int.reduceLT, Int.reduceLE, Int.reduceNeg, Int.reduceAdd, Int.reduceSub, Int.reduceMul, Int.reduceToNat, Int.reduceEq, Int.reduceNe, Int.cast_ofNat_Int, Int.natCast_one, Int.natCast_zero, Int.natCast_add, reduceCtorEq, t0, t3, t4, t5, eq_true (And.intro hi0 hi1), hlen4, List.length_nil, Int.natCast_zero]
        exact (hp2.trans hq).trans hp3
end Go.Proofs.YtkgdkommahgakaaDoor.Abs
