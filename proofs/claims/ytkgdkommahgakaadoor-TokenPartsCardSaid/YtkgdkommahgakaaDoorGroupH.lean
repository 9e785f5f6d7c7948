/- Part GroupH of the proof: an abstract machine for the program's calls, and what functions do on it. It has no conditions. -/
import Derived.Test.YtkgdkommahgakaaDoorGroupG
import Derived.Test.YtkgdkommahgakaaDoorGroupB
import Derived.Test.YtkgdkommahgakaaDoorRows
import Derived.LaidMore
import Derived.OpenShut
import Derived.Stop.Joined
namespace Go.Proofs.YtkgdkommahgakaaDoor.Abs
open Go Go.RowKit Gram
set_option linter.unusedVariables false
set_option linter.unusedSimpArgs false
set_option maxRecDepth 100000

theorem parseV_split {L : List Tk} {b : Nat} {v : Value} {ρ : Heap} (h : ParseV L b v ρ) : ∃ (E : List Nd) (e : Value) (cd ix : Int), v = .tuple #[e, faultV (cd, ix)] ∧ NB ρ E e ∧ (∀ i, badTok L = some i → E = [] ∧ cd = 5 ∧ ix = i) ∧
    (badTok L = none → ∀ t, parseOf L = some t → E = post t [] ∧ cd = 0) ∧ (badTok L = none → parseOf L = none → E = [] ∧ cd ≠ 0 ∧ 0 ≤ ix ∧ ix ≤ L.length) := by
  unfold ParseV at h
  split at h
  · rename_i i hi
    exact ⟨[], _, _, _, h, .inl ⟨rfl, rfl⟩, fun j hj => ⟨rfl, rfl, by rw [hi] at hj; rw [Option.some.inj hj]⟩, fun hh => by rw [hi] at hh; simp at hh, fun hh => by rw [hi] at hh; simp at hh⟩
  · rename_i hb
    split at h
    · rename_i t ht
      obtain ⟨q, c, h1, _, h2⟩ := h
      have hl : (post t []).length = t.size := by rw [post_len]; simp
      refine ⟨post t [], _, _, _, h1, .inr ⟨q, c, _, _, by rw [hl], h2⟩, fun j hj => by rw [hb] at hj; simp at hj, fun _ t' ht' => ?_, fun _ hn => by rw [ht] at hn; simp at hn⟩
      rw [ht] at ht'
      rw [Option.some.inj ht']
      exact ⟨rfl, rfl⟩
    · rename_i ht
      obtain ⟨cd, ix, h1, h2, h3, h4⟩ := h
      exact ⟨[], _, _, _, h1, .inl ⟨rfl, rfl⟩, fun j hj => by rw [hb] at hj; simp at hj, fun _ t' ht' => by rw [ht] at ht'; simp at ht', fun _ _ => ⟨rfl, h2, h3, h4⟩⟩
/-- The length of what stands there. -/
theorem NB.len {σ : Heap} {L : List Nd} {v : Value} (h : NB σ L v) : alen Tryd.prog #[24] [v] = some (.int .i64 L.length) := by
  rcases h with ⟨rfl, rfl⟩ | ⟨n, c, ow, sz, rfl, _⟩ <;> simp only [go_sem, ↓reduceIte, Nat.reduceEqDiff, Nat.reduceAdd, Nat.reduceMul, Nat.reduceLT, Nat.reduceLeDiff, Int.reduceLT, Int.reduceLE, Int.reduceNeg, Int.reduceAdd, Int.reduceSub, Int.reduceMul, Int.reduceToNat, Int.reduceEq, Int.reduceNe, Int.cast_ofNat_Int, Int.natCast_one, Int.natCast_zero, Int.natCast_add, reduceCtorEq, List.length_nil, Int.natCast_zero]

set_option maxHeartbeats 2000000 in
theorem f3_ok (L : List Tk) (n c : Nat) (sz : Nat) (σ : Heap) (hl : look σ n = some ⟨L.flatMap Tk.cells, false, sz⟩) (hG : GL σ) (hz : L.length * 40 ≤ 140737488351232) (ht : ∀ x ∈ L, x.text.length ≤ 140737488351232) (hv : ∀ x ∈ L, -9223372036854775808 ≤ x.value ∧ x.value ≤ 9223372036854775807) :
    CW Tryd.prog XL 3 [.slice (some ⟨n, 0, none⟩) L.length c] σ fun v σ' => v = .bool true ∧ σ <+: σ' := by
  refine cw_in Tryd.func3 rfl Tryd.ntmps3 (rs := [.tmp 2]) rfl (by kernel_rfl) (by exact Nat.le_of_ble_eq_true rfl) ?_
  have hn := look_lt hl
  have htl := Tk.len L
  simp only [go_sem, ↓reduceIte, Nat.reduceEqDiff, Nat.reduceAdd, Nat.reduceMul, Nat.reduceLT, Nat.reduceLeDiff, Int.reduceLT, Int.reduceLE, Int.reduceNeg, Int.reduceAdd, Int.reduceSub, Int.reduceMul, Int.reduceToNat, Int.reduceEq, Int.reduceNe, Int.cast_ofNat_Int, Int.natCast_one, Int.natCast_zero, Int.natCast_add, reduceCtorEq]
  refine (f17_ok σ hG).mono ?_
  rintro _ ρ0 ⟨rfl, hp0⟩
  simp only [go_sem, ↓reduceIte, Nat.reduceEqDiff, Nat.reduceAdd, Nat.reduceMul, Nat.reduceLT, Nat.reduceLeDiff, Int.reduceLT, Int.reduceLE, Int.reduceNeg, Int.reduceAdd, Int.reduceSub, Int.reduceMul, Int.reduceToNat, Int.reduceEq, Int.reduceNe, Int.cast_ofNat_Int, Int.natCast_one, Int.natCast_zero, Int.natCast_add, reduceCtorEq]
  refine (f18_ok L n c false sz ρ0 (look_prefix hp0 hl) (hG.mono hp0) (by omega) ht).mono ?_
  rintro v ρ ⟨hP, hp⟩
  obtain ⟨E, e, cd, ix, rfl, hE, hbad, hgood, hnone⟩ := parseV_split hP
  have hp1 : σ <+: ρ := hp0.trans hp
  have hfb : look (ρ ++ [some ⟨[.int .i64 cd, .int .i64 ix], true, 0⟩]) ρ.length = some ⟨[.int .i64 cd, .int .i64 ix], true, 0⟩ := by rw [look_app_new, look_zero]
  have hp2 : σ <+: ρ ++ [some ⟨[.int .i64 cd, .int .i64 ix], true, 0⟩] := hp1.trans (List.prefix_append _ _)
  have hE2 : NB (ρ ++ [some ⟨[.int .i64 cd, .int .i64 ix], true, 0⟩]) E e := hE.mono (List.prefix_append _ _)
  simp only [go_sem, ↓reduceIte, Nat.reduceEqDiff, Nat.reduceAdd, Nat.reduceMul, Nat.reduceLT, Nat.reduceLeDiff, Int.reduceLT, Int.reduceLE, Int.reduceNeg, Int.reduceAdd, Int.reduceSub, Int.reduceMul, Int.reduceToNat, Int.reduceEq, Int.reduceNe, Int.cast_ofNat_Int, Int.natCast_one, Int.natCast_zero, Int.natCast_add, reduceCtorEq, faultV]
  generalize ρ.length = f at *
  generalize ρ ++ [some ⟨[.int .i64 cd, .int .i64 ix], true, 0⟩] = σ1 at *
  refine LW_run (fun k T ρ => ∃ i : Nat, i + k = L.length ∧ σ1 <+: ρ ∧ T 0 = .slice (some ⟨n, 0, none⟩) L.length c ∧ T 3 = e ∧ T 4 = .pointer (some ⟨f, 0, none⟩) ∧ T 5 = .int .i64 i ∧ ∀ y ∈ L.take i, validT y = true) L.length ⟨0, by simp, List.prefix_rfl, rfl, rfl, rfl, rfl, by simp⟩ ?_
  rintro k T ρ2 ⟨i, hk, hq, t0, t3, t4, t5, hva⟩
  have hl2 := look_prefix (hp2.trans hq) hl
  have hf2 := look_prefix hq hfb
  have hE3 := hE2.mono hq
  have hn2 := look_lt hl2
  have hfl2 := look_lt hf2
  have hlen := hE3.len
  simp only [go_sem, ↓reduceIte, Nat.reduceEqDiff, Nat.reduceAdd, Nat.reduceMul, Nat.reduceLT, Nat.reduceLeDiff, Int.reduceLT, Int.reduceLE, Int.reduceNeg, Int.reduceAdd, Int.reduceSub, Int.reduceMul, Int.reduceToNat, Int.reduceEq, Int.reduceNe, Int.cast_ofNat_Int, Int.natCast_one, Int.natCast_zero, Int.natCast_add, reduceCtorEq, t0, t3, t4, t5]
  refine fork_dec (fun _ => ?_) (fun _ => ?_)
  · rename_i hi
    obtain ⟨x, hx⟩ : ∃ x, L[i]? = some x := ⟨_, List.getElem?_eq_getElem (by omega)⟩
    have hw : IntKind.i64.wrap ((i : Int) + 1) = (i : Int) + 1 := wrap64 (by omega)
    simp only [go_sem, ↓reduceIte, Nat.reduceEqDiff, Nat.reduceAdd, Nat.reduceMul, Nat.reduceLT, Nat.reduceLeDiff, Int.reduceLT, Int.reduceLE, Int.reduceNeg, Int.reduceAdd, Int.reduceSub, Int.reduceMul, Int.reduceToNat, Int.reduceEq, Int.reduceNe, Int.cast_ofNat_Int, Int.natCast_one, Int.natCast_zero, Int.natCast_add, reduceCtorEq, t0, t3, t4, t5, hi, hl2, Tk.take hx, htl, show i * 4 + 4 ≤ L.length * 4 by omega]
    refine (f19_ok XL x (ht x (List.mem_of_getElem? hx)) (hv x (List.mem_of_getElem? hx)) _).mono ?_
    rintro _ ρ3 ⟨rfl, hp3⟩
    cases hvx : validT x with
    | false =>
      have hbt := bad_hit hx hva hvx
      obtain ⟨rfl, rfl, rfl⟩ := hbad i hbt
      have hf3 := look_prefix hp3 hf2
      simp only [go_sem, ↓reduceIte, Nat.reduceEqDiff, Nat.reduceAdd, Nat.reduceMul, Nat.reduceLT, Nat.reduceLeDiff, Int.reduceLT, Int.reduceLE, Int.reduceNeg, Int.reduceAdd, Int.reduceSub, Int.reduceMul, Int.reduceToNat, Int.reduceEq, Int.reduceNe, Int.cast_ofNat_Int, Int.natCast_one, Int.natCast_zero, Int.natCast_add, reduceCtorEq, t0, t3, t4, t5, hf3]
      refine (f20_ok XL 5 i _).mono ?_
      rintro _ ρ4 ⟨rfl, hp4⟩
      simp only [go_sem, ↓reduceIte, Nat.reduceEqDiff, Nat.reduceAdd, Nat.reduceMul, Nat.reduceLT, Nat.reduceLeDiff, Int.reduceLT, Int.reduceLE, Int.reduceNeg, Int.reduceAdd, Int.reduceSub, Int.reduceMul, Int.reduceToNat, Int.reduceEq, Int.reduceNe, Int.cast_ofNat_Int, Int.natCast_one, Int.natCast_zero, Int.natCast_add, reduceCtorEq, t0, t3, t4, t5, hlen, List.length_nil, Int.natCast_zero]
      refine ⟨quiet_pre hp4, ?_⟩
      exact ((hp2.trans hq).trans hp3).trans hp4
    | true =>
      simp only [go_sem, ↓reduceIte, Nat.reduceEqDiff, Nat.reduceAdd, Nat.reduceMul, Nat.reduceLT, Nat.reduceLeDiff, Int.reduceLT, Int.reduceLE, Int.reduceNeg, Int.reduceAdd, Int.reduceSub, Int.reduceMul, Int.reduceToNat, Int.reduceEq, Int.reduceNe, Int.cast_ofNat_Int, Int.natCast_one, Int.natCast_zero, Int.natCast_add, reduceCtorEq, t0, t3, t4, t5, hw]
      refine ⟨k - 1, by omega, i + 1, by omega, hq.trans hp3, ?_⟩
      (repeat' (first | exact rfl | apply And.intro))
      exact take_valid hx hva hvx
  · rename_i hi
    simp only [go_sem, ↓reduceIte, Nat.reduceEqDiff, Nat.reduceAdd, Nat.reduceMul, Nat.reduceLT, Nat.reduceLeDiff, Int.reduceLT, Int.reduceLE, Int.reduceNeg, Int.reduceAdd, Int.reduceSub, Int.reduceMul, Int.reduceToNat, Int.reduceEq, Int.reduceNe, Int.cast_ofNat_Int, Int.natCast_one, Int.natCast_zero, Int.natCast_add, reduceCtorEq, t0, t3, t4, t5]
    rw [List.take_of_length_le (by omega)] at hva
    have hbt := bad_none hva
    have hN := nodes_all (L.length + 1) (σ0 := ρ2) (σ := ρ2) (n := n) (o := 0) (c := c) (la := L.length) (L := L) 0 (out := []) (nv := .slice none 0 0) (win_whole hl2 (.inl rfl)) hva List.prefix_rfl (.inl ⟨rfl, rfl⟩) (by omega) rfl (by omega) (by simp; omega)
    refine hN.mono ?_
    rintro v ρ3 ⟨hp3, hv3⟩
    have hf3 := look_prefix hp3 hf2
    have hE4 := hE3.mono hp3
    have hlen4 := hE4.len
    cases hno : nodesOf L with
    | none =>
      have hpn : parseOf L = none := by
        cases h : parseOf L with
        | none => rfl
        | some t => rw [((parse_nodes L t).1 h).1] at hno; simp at hno
      obtain ⟨rfl, hcd, hi0, hi1⟩ := hnone hbt hpn
      unfold nodesOf at hno
      rw [hno] at hv3
      simp only at hv3
      subst hv3
      simp only [go_sem, ↓reduceIte, Nat.reduceEqDiff, Nat.reduceAdd, Nat.reduceMul, Nat.reduceLT, Nat.reduceLeDiff, Int.reduceLT, Int.reduceLE, Int.reduceNeg, Int.reduceAdd, Int.reduceSub, Int.reduceMul, Int.reduceToNat, Int.reduceEq, Int.reduceNe, Int.cast_ofNat_Int, Int.natCast_one, Int.natCast_zero, Int.natCast_add, reduceCtorEq, t0, t3, t4, t5, hf3, eq_false hcd]
      refine (f22_ok XL ix 0 L.length _).mono ?_
      rintro _ _ ⟨rfl, rfl⟩
      simp only [go_sem, ↓reduceIte, Nat.reduceEqDiff, Nat.reduceAdd, Nat.reduceMul, Nat.reduceLT, Nat.reduceLeDiff, Int.reduceLT, Int.reduceLE, Int.reduceNeg, Int.reduceAdd, Int.reduceSub, Int.reduceMul, Int.reduceToNat, Int.reduceEq, Int.reduceNe, Int.cast_ofNat_Int, Int.natCast_one, Int.natCast_zero, Int.natCast_add, reduceCtorEq, t0, t3, t4, t5, eq_true (And.intro hi0 hi1), hlen4, List.length_nil, Int.natCast_zero]
      exact (hp2.trans hq).trans hp3
    | some t =>
      have hno2 := hno
      unfold nodesOf at hno2
      rw [hno2] at hv3
      obtain ⟨nv', rfl, hnv⟩ := hv3
      have hnb := hnv.nb
      have hlw := hnb.len
      have hpl : (post t []).length = t.size := by rw [post_len]; simp
      by_cases h60 : t.size ≤ 60
      · have hpt := (parse_nodes L t).2 ⟨hno, h60⟩
        obtain ⟨rfl, rfl⟩ := hgood hbt t hpt
        simp only [go_sem, ↓reduceIte, Nat.reduceEqDiff, Nat.reduceAdd, Nat.reduceMul, Nat.reduceLT, Nat.reduceLeDiff, Int.reduceLT, Int.reduceLE, Int.reduceNeg, Int.reduceAdd, Int.reduceSub, Int.reduceMul, Int.reduceToNat, Int.reduceEq, Int.reduceNe, Int.cast_ofNat_Int, Int.natCast_one, Int.natCast_zero, Int.natCast_add, reduceCtorEq, t0, t3, t4, t5, hf3, hlw, eq_false (show ¬ (60 : Int) < ((post t []).length : Int) by omega)]
        refine (f23_ok XL (post t []) (post t []) e nv' _ hE4 hnb (by omega) (by omega)).mono ?_
        rintro _ ρ4 ⟨rfl, hp4⟩
        simp only [go_sem, ↓reduceIte, Nat.reduceEqDiff, Nat.reduceAdd, Nat.reduceMul, Nat.reduceLT, Nat.reduceLeDiff, Int.reduceLT, Int.reduceLE, Int.reduceNeg, Int.reduceAdd, Int.reduceSub, Int.reduceMul, Int.reduceToNat, Int.reduceEq, Int.reduceNe, Int.cast_ofNat_Int, Int.natCast_one, Int.natCast_zero, Int.natCast_add, reduceCtorEq, t0, t3, t4, t5]
        exact ((hp2.trans hq).trans hp3).trans hp4
      · have hpn : parseOf L = none := by
          cases h : parseOf L with
          | none => rfl
          | some t' =>
            have h2 := (parse_nodes L t').1 h
            rw [hno] at h2
            rw [Option.some.inj h2.1] at h60
            exact absurd h2.2 h60
        obtain ⟨rfl, hcd, hi0, hi1⟩ := hnone hbt hpn
        simp only [go_sem, ↓reduceIte, Nat.reduceEqDiff, Nat.reduceAdd, Nat.reduceMul, Nat.reduceLT, Nat.reduceLeDiff, Int.reduceLT, Int.reduceLE, Int.reduceNeg, Int.reduceAdd, Int.reduceSub, Int.reduceMul, Int.reduceToNat, Int.reduceEq, Int.reduceNe, Int.cast_ofNat_Int, Int.natCast_one, Int.natCast_zero, Int.natCast_add, reduceCtorEq, t0, t3, t4, t5, hf3, hlw, eq_true (show (60 : Int) < ((post t []).length : Int) by omega), eq_false hcd]
        refine (f22_ok XL ix 0 L.length _).mono ?_
        rintro _ _ ⟨rfl, rfl⟩
        simp only [go_sem, ↓reduceIte, Nat.reduceEqDiff, Nat.reduceAdd, Nat.reduceMul, Nat.reduceLT, Nat.reduceLeDiff, Int.reduceLT, Int.reduceLE, Int.reduceNeg, Int.reduceAdd, Int.reduceSub, Int.reduceMul, Int.reduceToNat, Int.reduceEq, Int.reduceNe, Int.cast_ofNat_Int, Int.natCast_one, Int.natCast_zero, Int.natCast_add, reduceCtorEq, t0, t3, t4, t5, eq_true (And.intro hi0 hi1), hlen4, List.length_nil, Int.natCast_zero]
        exact (hp2.trans hq).trans hp3
end Go.Proofs.YtkgdkommahgakaaDoor.Abs

namespace Go.Proofs.YtkgdkommahgakaaDoor.Abs
open Go Go.RowKit
set_option linter.unusedVariables false
set_option linter.unusedSimpArgs false
set_option maxRecDepth 100000

theorem c9 : Tryd.prog.cellsOf 9 = 1 := by kernel_rfl
theorem c62 : Tryd.prog.cellsOf 62 = 1 := by kernel_rfl
theorem u62 : Tryd.prog.underlying 62 = some (.slice 9) := by kernel_rfl
theorem u106 : Tryd.prog.underlying 106 = some (.array 6 62) := by kernel_rfl
theorem str_of {s : ByteArray} {l : List UInt8} (h : s.data.toList = l) : s = str l := by
  subst h
  cases s
  rfl

/-- A slice of strings that a claim names. -/
theorem open_strs {H : Type} {enc : TypeId × Value → H} {w : World} {spare : Nat → Bool} {held : Bool} {G : Nat} {fuel : Nat} {v : Value} {x : DataW H × List MemPlace} {β : Map} {σ : Heap} (h : DataW.trod enc Tryd.prog w 0 spare held fuel 62 [v] = some x)
    (S : List (List UInt8)) (rest : List (DataW H)) (hS : 0 < S.length) (hx : x.1 = .slice (S.map fun s => .lit (.string s)) rest) (hf : Fo G β σ w) (hG : G ≤ σ.length) :
    ∃ β' σ' n, Fo G β' σ' w ∧ σ <+: σ' ∧ (∀ n c, β n = some c → β' n = some c) ∧ Rel β' (.slice (some ⟨n, 0, none⟩) S.length (S.length + 1)) v ∧ look σ' n = some ⟨S.map vstr, false, 1⟩ ∧ σ.length ≤ n := by
  rcases DataW.trod_slice u62 h with ⟨_, rfl⟩ | ⟨a, len, cap, elems, rest', n, rfl, hcs, rfl, hb, hl, hm, hlen, hel, -, -⟩
  · simp at hx
  obtain rfl := (List.cons.inj hcs).1
  simp only [DataW.slice.injEq] at hx
  obtain ⟨hx, _⟩ := hx
  have hSl : S.length = len := by
    have := congrArg List.length hx
    simp at this
    omega
  subst hSl
  rw [c9] at hel
  have hcell : ∀ i s, S[i]? = some s → w.cell? (a.add i) = some (.string (str s)) := fun i s hs => by
    have hi : i < S.length := by exact (List.getElem?_eq_some_iff.1 hs).1
    have h1 := hel i hi
    obtain ⟨y, hy⟩ : ∃ y, elems[i]? = some y := ⟨_, List.getElem?_eq_getElem (by omega)⟩
    rw [hy, Option.bind_eq_some_iff] at h1
    obtain ⟨cs', hcs', ht⟩ := h1
    obtain ⟨_, hcl, hcell⟩ := World.cells?_some hcs'
    obtain ⟨s', rfl, hy', _⟩ := DataW.trod_string (by kernel_rfl) ht
    have h2 := hcell 0 (by omega)
    rw [Nat.mul_one, add_add', Nat.add_zero] at h2
    rw [h2]
    have h3 : (elems.map (·.1))[i]? = some (.lit (.string s)) := by rw [hx, List.getElem?_map, hs]; rfl
    rw [List.getElem?_map, hy] at h3
    simp only [Option.map_some, Option.some.injEq, hy', DataW.lit.injEq, Lit.string.injEq] at h3
    rw [str_of h3]
    rfl
  have hobj : ∃ c ee frz, w.heap[a.block]? = some (.cells c ee frz) ∧ a.spot = none := by
    obtain ⟨s, hs⟩ : ∃ s, S[0]? = some s := ⟨_, List.getElem?_eq_getElem hS⟩
    have hv := hcell 0 s hs
    have e0 : a.add 0 = a := by simp [Addr.add]
    rw [e0] at hv
    unfold World.cell? at hv
    split at hv
    · rename_i c ee frz hc
      split at hv
      · simp at hv
      · rename_i hsp
        refine ⟨c, ee, frz, hc, ?_⟩
        cases hsp2 : a.spot with
        | none => rfl
        | some z => rw [hsp2] at hsp; simp at hsp
    · simp at hv
  obtain ⟨c, ee, frz, hc, hsp⟩ := hobj
  have hcc : ∀ i s, S[i]? = some s → c[a.off + i]? = some (.string (str s)) := fun i s hs => by
    have h1 := hcell i s hs
    unfold World.cell? at h1
    rw [add_block, hc] at h1
    simp only [add_spot a i hsp, add_off, Option.isSome_none, Bool.false_eq_true, if_false] at h1
    exact h1
  have hroom : a.off + S.length ≤ c.size := by
    have h1 := hcc (S.length - 1) (S[S.length - 1]'(by omega)) (List.getElem?_eq_getElem (by omega))
    have := (Array.getElem?_eq_some_iff.1 h1).1
    omega
  have hH : Holds β ⟨a.block, a.off, S.length, false, 1⟩ ⟨S.map vstr, false, 1⟩ w := by
    refine ⟨⟨c, ee, frz, hc, hroom, fun h => by simp at h, fun i v hv => ?_⟩, ?_, rfl, rfl, ?_⟩
    · rw [List.getElem?_map] at hv
      obtain ⟨s, hs, rfl⟩ := Option.map_eq_some_iff.1 hv
      exact ⟨_, hcc i s hs, .scal _ rfl⟩
    · simp
    · intro v hv
      obtain ⟨s, _, rfl⟩ := List.mem_map.1 hv
      rfl
  obtain ⟨l1, l2⟩ := hf.add hG hH rfl
  refine ⟨_, _, σ.length, l1, List.prefix_append _ _, l2, ?_, by rw [look_app_new, look_zero], Nat.le_refl _⟩
  obtain ⟨ab, ao, asp⟩ := a
  simp only at hsp
  subst hsp
  exact .slc σ.length 0 S.length (S.length + 1) cap ⟨ab, ao, S.length, false, 1⟩ (if_pos rfl) hl (fun h => by omega) (fun h => by simp at h)

/-- A block that has a name already, put in its place. -/
theorem Fo.put {G : Nat} {β : Map} {σ : Heap} {w : World} (h : Fo G β σ w) {n : Nat} {cb : CB} {b : Blk} (hn : β n = some cb) (hb : Holds β cb b w) : Fo G β (σ.set n (some b)) w := by
  refine ⟨fun m c b' hm hl => ?_, h.own, fun m hm => h.fresh m (by simpa using hm), h.glob⟩
  by_cases he : m = n
  · subst he
    have hlt : m < σ.length := by
      rcases Nat.lt_or_ge m σ.length with h' | h'
      · exact h'
      · rw [h.fresh m h'] at hn; simp at hn
    rw [look_set hlt, if_pos rfl] at hl
    obtain rfl := Option.some.inj hl
    rw [hn] at hm
    obtain rfl := Option.some.inj hm
    exact hb
  · rw [look_set_ne he] at hl
    exact h.holds m c b' hm hl
/-- The start, with room for the cells of the variable 0. -/
def map1 (P : Program) (k : Nat) : Map := fun n => if n = 0 then some ⟨0, 0, k, false, 0⟩ else map0 P n
theorem fo1 (P : Program) (hP : 0 < P.globals.size) (k : Nat) (w : World) : Fo P.globals.size (map1 P k) (heap0 P) w where
  holds n cb b hn hl := by
    have : look (heap0 P) n = none := by
      unfold look heap0
      rw [List.getElem?_replicate]
      split <;> rfl
    rw [this] at hl
    simp at hl
  own n cb h := by
    unfold map1 at h
    split at h
    · obtain rfl := Option.some.inj h; rfl
    · exact (fo0 P w).own n cb h
  fresh n hn := by
    have h0 := (fo0 P w).fresh n hn
    simp only [heap0, List.length_replicate] at hn
    unfold map1
    rw [if_neg (by omega)]
    exact h0
  glob g hg := by
    by_cases h0 : g = 0
    · subst h0
      exact ⟨_, if_pos rfl, rfl, rfl⟩
    · obtain ⟨cb, h1, h2⟩ := (fo0 P w).glob g hg
      exact ⟨cb, by rw [map1, if_neg h0]; exact h1, h2⟩

theorem gpos : 0 < Tryd.prog.globals.size := Nat.lt_of_lt_of_eq (show 0 < 7 by omega) (show 7 = Tryd.prog.globals.size by kernel_rfl)
theorem gLev : Tryd.prog.globalNamed "linkhouse/expr.levels" = some 0 := by kernel_rfl
theorem tLev : (Tryd.prog.globals[0]?).map (·.type) = some 106 := by kernel_rfl
theorem c106 : Tryd.prog.cellsOf 106 = 6 := by kernel_rfl

theorem glob_laid {w : World} (h : laidMetH Tryd.prog Rows.exprParseMatchesSpecRow.laid w) : ∃ β σ, Fo Tryd.prog.globals.size β σ w ∧ Tryd.prog.globals.size ≤ σ.length ∧ GL σ := by
  rw [MakeChecks.laidMetH_plain _ _ _ (by kernel_rfl)] at h
  obtain ⟨ps, ⟨g, t, cs, fuel, p, q, hg, ht, hv, hd, _, _⟩, _, _⟩ := h
  obtain rfl := Option.some.inj (gLev.symm.trans hg)
  obtain rfl := Option.some.inj (tLev.symm.trans ht)
  obtain ⟨xs, m, rfl, hx, hcl, hxl, hel⟩ := DataW.trod_array u106 hd
  rw [c106] at hcl
  rw [c62] at hel
  simp only [Prod.mk.injEq] at hx
  obtain ⟨hx, _⟩ := hx
  have hcell := World.var?_cell hg hv
  obtain ⟨x0, x1, x2, x3, x4, x5, rfl⟩ : ∃ x0 x1 x2 x3 x4 x5, xs = [x0, x1, x2, x3, x4, x5] := by
    match xs, hxl with
    | [x0, x1, x2, x3, x4, x5], _ => exact ⟨_, _, _, _, _, _, rfl⟩
  obtain ⟨l⟩ := cs
  obtain ⟨v0, v1, v2, v3, v4, v5, rfl⟩ : ∃ v0 v1 v2 v3 v4 v5, l = [v0, v1, v2, v3, v4, v5] := by
    match l, hcl with
    | [v0, v1, v2, v3, v4, v5], _ => exact ⟨_, _, _, _, _, _, rfl⟩
  simp only [Rows.laid_linkhouse_expr_levels, List.map_cons, List.map_nil, DataW.agg.injEq, List.cons.injEq, and_true] at hx
  obtain ⟨e0, e1, e2, e3, e4, e5⟩ := hx
  have f0 := fo1 Tryd.prog gpos 6 w
  obtain ⟨β1, σ1, n0, f1, p1, s1, r0, k0, m0⟩ := open_strs (hel 0 (by omega)) (lvls 0) [] (by decide) e0.symm f0 (len0 _)
  obtain ⟨β2, σ2, n1, f2, p2, s2, r1, k1, m1⟩ := open_strs (hel 1 (by omega)) (lvls 1) [] (by decide) e1.symm f1 (Nat.le_trans (len0 _) p1.length_le)
  have p12 := p1.trans p2
  obtain ⟨β3, σ3, n2, f3, p3, s3, r2, k2, m2⟩ := open_strs (hel 2 (by omega)) (lvls 2) [] (by decide) e2.symm f2 (Nat.le_trans (len0 _) p12.length_le)
  have p13 := p12.trans p3
  obtain ⟨β4, σ4, n3, f4, p4, s4, r3, k3, m3⟩ := open_strs (hel 3 (by omega)) (lvls 3) [] (by decide) e3.symm f3 (Nat.le_trans (len0 _) p13.length_le)
  have p14 := p13.trans p4
  obtain ⟨β5, σ5, n4, f5, p5, s5, r4, k4, m4⟩ := open_strs (hel 4 (by omega)) (lvls 4) [] (by decide) e4.symm f4 (Nat.le_trans (len0 _) p14.length_le)
  have p15 := p14.trans p5
  obtain ⟨β6, σ6, n5, f6, p6, s6, r5, k5, m5⟩ := open_strs (hel 5 (by omega)) (lvls 5) [] (by decide) e5.symm f5 (Nat.le_trans (len0 _) p15.length_le)
  have p16 := p15.trans p6
  have h0 : 1 ≤ (heap0 Tryd.prog).length := Nat.le_trans gpos (len0 _)
  have b0 : β6 0 = some ⟨0, 0, 6, false, 0⟩ := s6 _ _ (s5 _ _ (s4 _ _ (s3 _ _ (s2 _ _ (s1 _ _ (if_pos rfl))))))
  have hv' := hv
  simp only [World.var?, hg, Option.bind_some] at hv'
  split at hv'
  case h_2 => simp at hv'
  rename_i cs ee frz hc
  obtain rfl := Option.some.inj hv'
  have l1 := p1.length_le
  have l2 := p12.length_le
  have l3 := p13.length_le
  have l4 := p14.length_le
  have l5 := p15.length_le
  have l6 := p16.length_le
  have hgc : gcells (fun i => [n0, n1, n2, n3, n4, n5].getD i 0) = [.slice (some ⟨n0, 0, none⟩) 1 2, .slice (some ⟨n1, 0, none⟩) 1 2, .slice (some ⟨n2, 0, none⟩) 1 2, .slice (some ⟨n3, 0, none⟩) 2 3, .slice (some ⟨n4, 0, none⟩) 2 3, .slice (some ⟨n5, 0, none⟩) 3 4] := rfl
  have hH : Holds β6 ⟨0, 0, 6, false, 0⟩ ⟨gcells (fun i => [n0, n1, n2, n3, n4, n5].getD i 0), false, 0⟩ w := by
    rw [hgc]
    refine ⟨⟨_, ee, frz, hc, by simp, fun h => by simp at h, fun i v hv => ?_⟩, by simp, rfl, rfl, ?_⟩
    · have hi := (List.getElem?_eq_some_iff.1 hv).1
      simp only [List.length_cons, List.length_nil] at hi
      rcases (show i = 0 ∨ i = 1 ∨ i = 2 ∨ i = 3 ∨ i = 4 ∨ i = 5 by omega) with rfl | rfl | rfl | rfl | rfl | rfl
      · obtain rfl := Option.some.inj hv; exact ⟨v0, rfl, ((((((r0).mono s2).mono s3).mono s4).mono s5).mono s6)⟩
      · obtain rfl := Option.some.inj hv; exact ⟨v1, rfl, (((((r1).mono s3).mono s4).mono s5).mono s6)⟩
      · obtain rfl := Option.some.inj hv; exact ⟨v2, rfl, ((((r2).mono s4).mono s5).mono s6)⟩
      · obtain rfl := Option.some.inj hv; exact ⟨v3, rfl, (((r3).mono s5).mono s6)⟩
      · obtain rfl := Option.some.inj hv; exact ⟨v4, rfl, ((r4).mono s6)⟩
      · obtain rfl := Option.some.inj hv; exact ⟨v5, rfl, r5⟩
    · intro v hv
      simp only [List.mem_cons, List.not_mem_nil, or_false] at hv
      rcases hv with rfl | rfl | rfl | rfl | rfl | rfl <;> rfl
  refine ⟨β6, _, f6.put b0 hH, ?_, (fun i => [n0, n1, n2, n3, n4, n5].getD i 0), ⟨0, ?_⟩, fun i hi => ?_⟩
  · rw [List.length_set]
    exact Nat.le_trans (len0 _) l6
  · rw [look_set (by omega), if_pos rfl]
  · rcases (show i = 0 ∨ i = 1 ∨ i = 2 ∨ i = 3 ∨ i = 4 ∨ i = 5 by omega) with rfl | rfl | rfl | rfl | rfl | rfl
    · exact ⟨_, _, (look_set_ne (show n0 ≠ 0 by omega)).trans (look_prefix (p2.trans (p3.trans (p4.trans (p5.trans p6)))) k0)⟩
    · exact ⟨_, _, (look_set_ne (show n1 ≠ 0 by omega)).trans (look_prefix (p3.trans (p4.trans (p5.trans p6))) k1)⟩
    · exact ⟨_, _, (look_set_ne (show n2 ≠ 0 by omega)).trans (look_prefix (p4.trans (p5.trans p6)) k2)⟩
    · exact ⟨_, _, (look_set_ne (show n3 ≠ 0 by omega)).trans (look_prefix (p5.trans p6) k3)⟩
    · exact ⟨_, _, (look_set_ne (show n4 ≠ 0 by omega)).trans (look_prefix p6 k4)⟩
    · exact ⟨_, _, (look_set_ne (show n5 ≠ 0 by omega)).trans k5⟩
end Go.Proofs.YtkgdkommahgakaaDoor.Abs

namespace Go.Proofs.YtkgdkommahgakaaDoor.Abs
open Go Go.RowKit
set_option linter.unusedVariables false

theorem rd31 {σ : Heap} {d : Nat} {cs : List Value} (h : RD Tryd.prog σ d 31 cs) : ∃ x : Tk, cs = x.cells ∧ x.text.length ≤ 140737488351232 ∧ (-9223372036854775808 ≤ x.value ∧ x.value ≤ 9223372036854775807) := by
  obtain ⟨d', h⟩ := RD_struct (ts := [3, 9, 3, 3]) (by kernel_rfl) h
  obtain ⟨r1, _, h⟩ := RDF_cons (C := 1) (by kernel_rfl) h
  obtain ⟨r2, _, h⟩ := RDF_cons (C := 1) (by kernel_rfl) h
  obtain ⟨r3, _, h⟩ := RDF_cons (C := 1) (by kernel_rfl) h
  obtain ⟨r4, _, h⟩ := RDF_cons (C := 1) (by kernel_rfl) h
  obtain ⟨n1, e1, w1⟩ := RD_int (k := .i64) (by kernel_rfl) r1
  obtain ⟨s2, e2, w2⟩ := RD_string (by kernel_rfl) r2
  obtain ⟨n3, e3, w3⟩ := RD_int (k := .i64) (by kernel_rfl) r3
  obtain ⟨n4, e4, w4⟩ := RD_int (k := .i64) (by kernel_rfl) r4
  have es : s2 = str s2.data.toList := str_of rfl
  refine ⟨⟨n1, s2.data.toList, n3, n4⟩, ?_, by simpa using w2, ?_⟩
  · simp only [List.drop_drop] at h
    have h' : cs.drop 4 = [] := h
    simp only [List.drop_drop] at e2 e3 e4
    have e : cs = cs.take 1 ++ ((cs.drop 1).take 1 ++ ((cs.drop 2).take 1 ++ ((cs.drop 3).take 1 ++ cs.drop 4))) := by
      have hd : ∀ k, cs.drop k = (cs.drop k).take 1 ++ cs.drop (k + 1) := fun k => by rw [← List.drop_drop]; exact (List.take_append_drop 1 _).symm
      rw [← hd 3, ← hd 2, ← hd 1]
      exact (List.take_append_drop 1 cs).symm
    rw [e, e1, e2, e3, e4, h', es]
    rfl
  · simp [Lit.wf] at w3
    exact ⟨w3.1, w3.2⟩
theorem toks_of {σ : Heap} {d : Nat} {v : Value} (h : RD Tryd.prog σ d 22 [v]) : ∃ (n : Nat) (L : List Tk), v = .slice (some ⟨n, 0, none⟩) L.length (L.length + 1) ∧ look σ n = some ⟨L.flatMap Tk.cells, false, 4⟩ ∧ L.length * 40 ≤ 140737488351232 ∧
    ∀ x ∈ L, x.text.length ≤ 140737488351232 ∧ (-9223372036854775808 ≤ x.value ∧ x.value ≤ 9223372036854775807) := by
  obtain ⟨n, L, h1, h2, h3, h4⟩ := RD_slice (e := 31) (C := 4) (B := 40) Tk.cells (fun x => x.text.length ≤ 140737488351232 ∧ (-9223372036854775808 ≤ x.value ∧ x.value ≤ 9223372036854775807)) (by kernel_rfl) (by kernel_rfl) (by kernel_rfl) (fun _ => rfl) h fun d' cs hr => rd31 hr
  exact ⟨n, L, by simpa using h1, h2, h3, h4⟩
end Go.Proofs.YtkgdkommahgakaaDoor.Abs

namespace Go.Proofs.YtkgdkommahgakaaDoor.Abs
open Go Go.RowKit
set_option linter.unusedVariables false

theorem cut1 {α : Type} (cs : List α) (k : Nat) : cs.drop k = (cs.drop k).take 1 ++ cs.drop (k + 1) := by rw [← List.drop_drop]; exact (List.take_append_drop 1 _).symm
theorem rd74 {σ : Heap} {d : Nat} {cs : List Value} (h : RD Tryd.prog σ d 74 cs) : ∃ x : Nd, cs = x.cells ∧ x.name.length ≤ 140737488351232 := by
  obtain ⟨d', h⟩ := RD_struct (ts := [3, 3, 9, 3, 3]) (by kernel_rfl) h
  obtain ⟨r1, _, h⟩ := RDF_cons (C := 1) (by kernel_rfl) h
  obtain ⟨r2, _, h⟩ := RDF_cons (C := 1) (by kernel_rfl) h
  obtain ⟨r3, _, h⟩ := RDF_cons (C := 1) (by kernel_rfl) h
  obtain ⟨r4, _, h⟩ := RDF_cons (C := 1) (by kernel_rfl) h
  obtain ⟨r5, _, h⟩ := RDF_cons (C := 1) (by kernel_rfl) h
  obtain ⟨n1, e1, _⟩ := RD_int (k := .i64) (by kernel_rfl) r1
  obtain ⟨n2, e2, _⟩ := RD_int (k := .i64) (by kernel_rfl) r2
  obtain ⟨s3, e3, w3⟩ := RD_string (by kernel_rfl) r3
  obtain ⟨n4, e4, _⟩ := RD_int (k := .i64) (by kernel_rfl) r4
  obtain ⟨n5, e5, _⟩ := RD_int (k := .i64) (by kernel_rfl) r5
  have es : s3 = str s3.data.toList := str_of rfl
  refine ⟨⟨n1, n2, s3.data.toList, n4, n5⟩, ?_, by simpa using w3⟩
  simp only [List.drop_drop] at h e2 e3 e4 e5
  have h' : cs.drop 5 = [] := h
  have e : cs = cs.take 1 ++ ((cs.drop 1).take 1 ++ ((cs.drop 2).take 1 ++ ((cs.drop 3).take 1 ++ ((cs.drop 4).take 1 ++ cs.drop 5)))) := by
    rw [← cut1 cs 4, ← cut1 cs 3, ← cut1 cs 2, ← cut1 cs 1]
    exact (List.take_append_drop 1 cs).symm
  rw [e, e1, e2, e3, e4, e5, h', es]
  rfl
theorem nds_of {σ : Heap} {d : Nat} {v : Value} (h : RD Tryd.prog σ d 24 [v]) : ∃ (n : Nat) (L : List Nd), v = .slice (some ⟨n, 0, none⟩) L.length (L.length + 1) ∧ look σ n = some ⟨L.flatMap Nd.cells, false, 5⟩ ∧ L.length * 48 ≤ 140737488351232 ∧
    ∀ x ∈ L, x.name.length ≤ 140737488351232 := by
  obtain ⟨n, L, h1, h2, h3, h4⟩ := RD_slice (e := 74) (C := 5) (B := 48) Nd.cells (fun x => x.name.length ≤ 140737488351232) (by kernel_rfl) (by kernel_rfl) (by kernel_rfl) (fun _ => rfl) h fun d' cs hr => rd74 hr
  exact ⟨n, L, by simpa using h1, h2, h3, h4⟩
theorem rd40 {σ : Heap} {d : Nat} {cs : List Value} (h : RD Tryd.prog σ d 40 cs) : ∃ x : Lin, cs = x.cells ∧ x.sym.length ≤ 140737488351232 ∧ x.minus.length ≤ 140737488351232 := by
  obtain ⟨d', h⟩ := RD_struct (ts := [9, 9, 3]) (by kernel_rfl) h
  obtain ⟨r1, _, h⟩ := RDF_cons (C := 1) (by kernel_rfl) h
  obtain ⟨r2, _, h⟩ := RDF_cons (C := 1) (by kernel_rfl) h
  obtain ⟨r3, _, h⟩ := RDF_cons (C := 1) (by kernel_rfl) h
  obtain ⟨s1, e1, w1⟩ := RD_string (by kernel_rfl) r1
  obtain ⟨s2, e2, w2⟩ := RD_string (by kernel_rfl) r2
  obtain ⟨n3, e3, _⟩ := RD_int (k := .i64) (by kernel_rfl) r3
  refine ⟨⟨s1.data.toList, s2.data.toList, n3⟩, ?_, by simpa using w1, by simpa using w2⟩
  simp only [List.drop_drop] at h e2 e3
  have h' : cs.drop 3 = [] := h
  have e : cs = cs.take 1 ++ ((cs.drop 1).take 1 ++ ((cs.drop 2).take 1 ++ cs.drop 3)) := by
    rw [← cut1 cs 2, ← cut1 cs 1]
    exact (List.take_append_drop 1 cs).symm
  rw [e, e1, e2, e3, h', show s1 = str s1.data.toList from str_of rfl, show s2 = str s2.data.toList from str_of rfl]
  rfl
theorem rd47 {σ : Heap} {d : Nat} {cs : List Value} (h : RD Tryd.prog σ d 47 cs) : ∃ x : Sy, cs = x.cells ∧ x.few := by
  obtain ⟨d', h⟩ := RD_struct (ts := [9, 40]) (by kernel_rfl) h
  obtain ⟨r1, _, h⟩ := RDF_cons (C := 1) (by kernel_rfl) h
  obtain ⟨r2, _, h⟩ := RDF_cons (C := 3) (by kernel_rfl) h
  obtain ⟨s1, e1, w1⟩ := RD_string (by kernel_rfl) r1
  obtain ⟨l, e2, w2, w3⟩ := rd40 r2
  refine ⟨⟨s1.data.toList, l⟩, ?_, by simpa using w1, w2, w3⟩
  simp only [List.drop_drop] at h e2
  have h' : cs.drop 4 = [] := h
  have e : cs = cs.take 1 ++ ((cs.drop 1).take 3 ++ cs.drop 4) := by
    rw [show cs.drop 4 = (cs.drop 1).drop 3 by rw [List.drop_drop], List.take_append_drop, List.take_append_drop]
  rw [e, e1, e2, h', show s1 = str s1.data.toList from str_of rfl]
  rfl
theorem syms_of {σ : Heap} {d : Nat} {v : Value} (h : RD Tryd.prog σ d 38 [v]) : ∃ (n : Nat) (L : List Sy), v = .slice (some ⟨n, 0, none⟩) L.length (L.length + 1) ∧ look σ n = some ⟨L.flatMap Sy.cells, false, 4⟩ ∧ L.length * 56 ≤ 140737488351232 ∧
    ∀ x ∈ L, x.few := by
  obtain ⟨n, L, h1, h2, h3, h4⟩ := RD_slice (e := 47) (C := 4) (B := 56) Sy.cells Sy.few (by kernel_rfl) (by kernel_rfl) (by kernel_rfl) (fun _ => rfl) h fun d' cs hr => rd47 hr
  exact ⟨n, L, by simpa using h1, h2, h3, h4⟩
end Go.Proofs.YtkgdkommahgakaaDoor.Abs
