/- Part GroupO of the proof: an abstract machine for the program's calls, and what functions do on it. It has no conditions. -/
import Derived.Test.YtkgdkommahgakaaDoorGroupN
import Derived.Test.YtkgdkommahgakaaDoorGroupH
import Derived.Lib.LaidTab
/- The law function TokenJoinMatchesSpec (f9). -/
namespace Go.Proofs.YtkgdkommahgakaaDoor.Abs
open Go Go.RowKit Gram
set_option linter.unusedVariables false
set_option linter.unusedSimpArgs false
set_option maxRecDepth 100000

set_option maxHeartbeats 8000000 in
theorem f9_ok (A : List Tk) (n c : Nat) (ow : Bool) (sz : Nat) (σ : Heap) (hl : look σ n = some ⟨A.flatMap Tk.cells, ow, sz⟩) (hG : GE σ) (hP : GP σ) (ht : ∀ x ∈ A, x.text.length ≤ 140737488351232 ∧ (-9223372036854775808 ≤ x.value ∧ x.value ≤ 9223372036854775807)) (hz : A.length ≤ 140737488351232) :
    CW Tryd.prog XT 9 [.slice (some ⟨n, 0, none⟩) A.length c] σ fun v σ' => v = .bool true ∧ σ <+: σ' := by
  refine cw_in Tryd.func9 rfl Tryd.ntmps9 (rs := [.tmp 2]) rfl (by kernel_rfl) (by exact Nat.le_of_ble_eq_true rfl) ?_
  simp only [go_sem, ↓reduceIte, Nat.reduceEqDiff, Nat.reduceAdd, Nat.reduceMul, Nat.reduceLT, Nat.reduceLeDiff, Int.reduceLT, Int.reduceLE, Int.reduceNeg, Int.reduceAdd, Int.reduceSub, Int.reduceMul, Int.reduceToNat, Int.reduceEq, Int.reduceNe, Int.cast_ofNat_Int, Int.natCast_one, Int.natCast_zero, Int.natCast_add, reduceCtorEq]
  refine (f34_ok _ hG hP).mono ?_
  rintro _ ρ1 ⟨rfl, hp1⟩
  simp only [go_sem, ↓reduceIte, Nat.reduceEqDiff, Nat.reduceAdd, Nat.reduceMul, Nat.reduceLT, Nat.reduceLeDiff, Int.reduceLT, Int.reduceLE, Int.reduceNeg, Int.reduceAdd, Int.reduceSub, Int.reduceMul, Int.reduceToNat, Int.reduceEq, Int.reduceNe, Int.cast_ofNat_Int, Int.natCast_one, Int.natCast_zero, Int.natCast_add, reduceCtorEq]
  refine (f35_ok A n c ow sz _ (look_prefix hp1 hl) (fun x hx => (ht x hx).1) hz (hP.mono hp1)).mono ?_
  rintro _ ρ2 ⟨rfl, hp2⟩
  have hP2 := hp1.trans hp2
  simp only [go_sem, ↓reduceIte, Nat.reduceEqDiff, Nat.reduceAdd, Nat.reduceMul, Nat.reduceLT, Nat.reduceLeDiff, Int.reduceLT, Int.reduceLE, Int.reduceNeg, Int.reduceAdd, Int.reduceSub, Int.reduceMul, Int.reduceToNat, Int.reduceEq, Int.reduceNe, Int.cast_ofNat_Int, Int.natCast_one, Int.natCast_zero, Int.natCast_add, reduceCtorEq, faultV]
  have hal := Tk.len A
  have h4 : look (ρ2 ++ [some ⟨[.int .i64 (joinF A).2.1, .int .i64 (joinF A).2.2], true, 0⟩]) ρ2.length = some ⟨[.int .i64 (joinF A).2.1, .int .i64 (joinF A).2.2], true, 0⟩ := by rw [look_app_new, look_zero]
  have hpre : σ <+: ρ2 ++ [some (⟨[.int .i64 (joinF A).2.1, .int .i64 (joinF A).2.2], true, 0⟩ : Blk)] := hP2.trans (List.prefix_append _ _)
  by_cases hlen : 4000 < A.length
  · have hli : (4000 : Int) < (A.length : Int) := by omega
    rw [joinF_long hlen] at h4 hpre ⊢
    have h4l := look_lt h4
    simp only [go_sem, ↓reduceIte, Nat.reduceEqDiff, Nat.reduceAdd, Nat.reduceMul, Nat.reduceLT, Nat.reduceLeDiff, Int.reduceLT, Int.reduceLE, Int.reduceNeg, Int.reduceAdd, Int.reduceSub, Int.reduceMul, Int.reduceToNat, Int.reduceEq, Int.reduceNe, Int.cast_ofNat_Int, Int.natCast_one, Int.natCast_zero, Int.natCast_add, reduceCtorEq, hli, h4]
    refine (f20_ok XT 2 (-1) _).mono ?_
    rintro _ ρ9 ⟨rfl, hp9⟩
    refine And.intro (quiet_pre hp9) ?_
    simp only [go_sem, ↓reduceIte, Nat.reduceEqDiff, Nat.reduceAdd, Nat.reduceMul, Nat.reduceLT, Nat.reduceLeDiff, Int.reduceLT, Int.reduceLE, Int.reduceNeg, Int.reduceAdd, Int.reduceSub, Int.reduceMul, Int.reduceToNat, Int.reduceEq, Int.reduceNe, Int.cast_ofNat_Int, Int.natCast_one, Int.natCast_zero, Int.natCast_add, reduceCtorEq, hli]
    exact hpre.trans hp9
  · have hli : ¬ (4000 : Int) < (A.length : Int) := by omega
    simp only [go_sem, ↓reduceIte, Nat.reduceEqDiff, Nat.reduceAdd, Nat.reduceMul, Nat.reduceLT, Nat.reduceLeDiff, Int.reduceLT, Int.reduceLE, Int.reduceNeg, Int.reduceAdd, Int.reduceSub, Int.reduceMul, Int.reduceToNat, Int.reduceEq, Int.reduceNe, Int.cast_ofNat_Int, Int.natCast_one, Int.natCast_zero, Int.natCast_add, reduceCtorEq, hli]
    generalize ρ2 ++ [some (⟨[.int .i64 (joinF A).2.1, .int .i64 (joinF A).2.2], true, 0⟩ : Blk)] = σ1 at *
    refine LW_run (fun k T ρ => ∃ i : Nat, i + k = A.length ∧ σ1 <+: ρ ∧ T 0 = .slice (some ⟨n, 0, none⟩) A.length c ∧ T 3 = .string (str (joinF A).1) ∧ T 4 = .pointer (some ⟨ρ2.length, 0, none⟩) ∧ T 5 = .int .i64 i ∧ ∀ y ∈ A.take i, validT y = true) A.length
      ⟨0, by simp, List.prefix_rfl, rfl, by simp [putT], by simp [putT], rfl, by simp⟩ ?_
    rintro k T ρ ⟨i, hk, hp, t0, t3, t4, t5, hV⟩
    have hl2 := look_prefix (hpre.trans hp) hl
    have h4r := look_prefix hp h4
    have h4l := look_lt h4r
    simp only [go_sem, ↓reduceIte, Nat.reduceEqDiff, Nat.reduceAdd, Nat.reduceMul, Nat.reduceLT, Nat.reduceLeDiff, Int.reduceLT, Int.reduceLE, Int.reduceNeg, Int.reduceAdd, Int.reduceSub, Int.reduceMul, Int.reduceToNat, Int.reduceEq, Int.reduceNe, Int.cast_ofNat_Int, Int.natCast_one, Int.natCast_zero, Int.natCast_add, reduceCtorEq, t0, t3, t4, t5]
    refine fork_dec (fun _ => ?_) (fun _ => ?_)
    · rename_i hi
      obtain ⟨x, hx⟩ : ∃ x, A[i]? = some x := ⟨_, List.getElem?_eq_getElem (by omega)⟩
      have hw : IntKind.i64.wrap ((i : Int) + 1) = (i : Int) + 1 := wrap64 (by omega)
      have hxt := ht x (List.mem_of_getElem? hx)
      simp only [go_sem, ↓reduceIte, Nat.reduceEqDiff, Nat.reduceAdd, Nat.reduceMul, Nat.reduceLT, Nat.reduceLeDiff, Int.reduceLT, Int.reduceLE, Int.reduceNeg, Int.reduceAdd, Int.reduceSub, Int.reduceMul, Int.reduceToNat, Int.reduceEq, Int.reduceNe, Int.cast_ofNat_Int, Int.natCast_one, Int.natCast_zero, Int.natCast_add, reduceCtorEq, t0, t3, t4, t5, hi, hl2, Tk.take hx, hal, show i * 4 + 4 ≤ A.length * 4 by omega, Tk.cells]
      refine (f19_ok XT x hxt.1 hxt.2 _).mono ?_
      rintro _ ρ3 ⟨rfl, hp3⟩
      cases hv : validT x with
      | true =>
        simp only [go_sem, ↓reduceIte, Nat.reduceEqDiff, Nat.reduceAdd, Nat.reduceMul, Nat.reduceLT, Nat.reduceLeDiff, Int.reduceLT, Int.reduceLE, Int.reduceNeg, Int.reduceAdd, Int.reduceSub, Int.reduceMul, Int.reduceToNat, Int.reduceEq, Int.reduceNe, Int.cast_ofNat_Int, Int.natCast_one, Int.natCast_zero, Int.natCast_add, reduceCtorEq, t0, t3, t4, t5, hw, hv]
        refine ⟨k - 1, by omega, i + 1, by omega, hp.trans hp3, rfl, fun y hy => ?_⟩
        rw [List.take_add_one, hx] at hy
        rcases List.mem_append.1 hy with hy | hy
        · exact hV y hy
        · simp at hy; subst hy; exact hv
      | false =>
        rw [joinF_bad hlen hx hv hV] at t3 h4r
        have h4q := look_prefix hp3 h4r
        have h4ql := look_lt h4q
        simp only [go_sem, ↓reduceIte, Nat.reduceEqDiff, Nat.reduceAdd, Nat.reduceMul, Nat.reduceLT, Nat.reduceLeDiff, Int.reduceLT, Int.reduceLE, Int.reduceNeg, Int.reduceAdd, Int.reduceSub, Int.reduceMul, Int.reduceToNat, Int.reduceEq, Int.reduceNe, Int.cast_ofNat_Int, Int.natCast_one, Int.natCast_zero, Int.natCast_add, reduceCtorEq, t0, t3, t4, t5, hv, h4q]
        refine (f20_ok XT 5 (i : Int) _).mono ?_
        rintro _ ρ9 ⟨rfl, hp9⟩
        refine And.intro (quiet_pre hp9) ?_
        simp only [go_sem, ↓reduceIte, Nat.reduceEqDiff, Nat.reduceAdd, Nat.reduceMul, Nat.reduceLT, Nat.reduceLeDiff, Int.reduceLT, Int.reduceLE, Int.reduceNeg, Int.reduceAdd, Int.reduceSub, Int.reduceMul, Int.reduceToNat, Int.reduceEq, Int.reduceNe, Int.cast_ofNat_Int, Int.natCast_one, Int.natCast_zero, Int.natCast_add, reduceCtorEq, t0, t3, t4, t5]
        exact ((hpre.trans hp).trans hp3).trans hp9
    · rename_i hi
      have hii : i = A.length := by omega
      subst hii
      rw [List.take_length] at hV
      simp only [go_sem, ↓reduceIte, Nat.reduceEqDiff, Nat.reduceAdd, Nat.reduceMul, Nat.reduceLT, Nat.reduceLeDiff, Int.reduceLT, Int.reduceLE, Int.reduceNeg, Int.reduceAdd, Int.reduceSub, Int.reduceMul, Int.reduceToNat, Int.reduceEq, Int.reduceNe, Int.cast_ofNat_Int, Int.natCast_one, Int.natCast_zero, Int.natCast_add, reduceCtorEq, t0, t3, t4, t5]
      refine (f36_ok XT A n c ow sz _ hl2 hV (by omega)).mono ?_
      rintro _ ρ3 ⟨rfl, hp3⟩
      rw [joinF_all hlen hV] at t3 h4r
      by_cases h8 : 8000 < (joinT A).length
      · have h8i : (8000 : Int) < ((joinT A).length : Int) := by omega
        rw [if_pos h8] at t3 h4r
        have h4q := look_prefix hp3 h4r
        have h4ql := look_lt h4q
        simp only [go_sem, ↓reduceIte, Nat.reduceEqDiff, Nat.reduceAdd, Nat.reduceMul, Nat.reduceLT, Nat.reduceLeDiff, Int.reduceLT, Int.reduceLE, Int.reduceNeg, Int.reduceAdd, Int.reduceSub, Int.reduceMul, Int.reduceToNat, Int.reduceEq, Int.reduceNe, Int.cast_ofNat_Int, Int.natCast_one, Int.natCast_zero, Int.natCast_add, reduceCtorEq, t0, t3, t4, t5, h8i, h4q]
        refine (f20_ok XT 10 (-2) _).mono ?_
        rintro _ ρ9 ⟨rfl, hp9⟩
        refine And.intro (quiet_pre hp9) ?_
        simp only [go_sem, ↓reduceIte, Nat.reduceEqDiff, Nat.reduceAdd, Nat.reduceMul, Nat.reduceLT, Nat.reduceLeDiff, Int.reduceLT, Int.reduceLE, Int.reduceNeg, Int.reduceAdd, Int.reduceSub, Int.reduceMul, Int.reduceToNat, Int.reduceEq, Int.reduceNe, Int.cast_ofNat_Int, Int.natCast_one, Int.natCast_zero, Int.natCast_add, reduceCtorEq, t0, t3, t4, t5]
        exact ((hpre.trans hp).trans hp3).trans hp9
      · have h8i : ¬ (8000 : Int) < ((joinT A).length : Int) := by omega
        rw [if_neg h8] at t3 h4r
        have h4q := look_prefix hp3 h4r
        have h4ql := look_lt h4q
        simp only [go_sem, ↓reduceIte, Nat.reduceEqDiff, Nat.reduceAdd, Nat.reduceMul, Nat.reduceLT, Nat.reduceLeDiff, Int.reduceLT, Int.reduceLE, Int.reduceNeg, Int.reduceAdd, Int.reduceSub, Int.reduceMul, Int.reduceToNat, Int.reduceEq, Int.reduceNe, Int.cast_ofNat_Int, Int.natCast_one, Int.natCast_zero, Int.natCast_add, reduceCtorEq, t0, t3, t4, t5, h8i, h4q]
        exact (hpre.trans hp).trans hp3
end Go.Proofs.YtkgdkommahgakaaDoor.Abs

/- What the token laws' laid variables give the abstract heap. -/
namespace Go.Proofs.YtkgdkommahgakaaDoor.Abs
open Go Go.RowKit
set_option linter.unusedVariables false
set_option linter.unusedSimpArgs false
set_option maxRecDepth 100000

def mapR (P : Program) (r : Nat → Nat) : Map := fun n => if n < P.globals.size then some ⟨n, 0, r n, false, 0⟩ else none
theorem foR (P : Program) (r : Nat → Nat) (w : World) : Fo P.globals.size (mapR P r) (heap0 P) w where
  holds n cb b hn hl := by
    have : look (heap0 P) n = none := by
      unfold look heap0
      rw [List.getElem?_replicate]
      split <;> rfl
    rw [this] at hl
    simp at hl
  own n cb h := by
    unfold mapR at h
    split at h
    · obtain rfl := Option.some.inj h; rfl
    · simp at h
  fresh n hn := by
    simp only [heap0, List.length_replicate] at hn
    unfold mapR
    rw [if_neg (by omega)]
  glob g hg := ⟨_, if_pos hg, rfl, rfl⟩
theorem gSize : Tryd.prog.globals.size = 7 := by kernel_rfl
theorem gSyn : Tryd.prog.globalNamed "strconv.ErrSyntax" = some 2 := by kernel_rfl
theorem gRan : Tryd.prog.globalNamed "strconv.ErrRange" = some 3 := by kernel_rfl
theorem gPow : Tryd.prog.globalNamed "internal/strconv.uint64pow10" = some 4 := by kernel_rfl
theorem tSyn : (Tryd.prog.globals[2]?).map (·.type) = some 130 := by kernel_rfl
theorem tRan : (Tryd.prog.globals[3]?).map (·.type) = some 130 := by kernel_rfl
theorem tPow : (Tryd.prog.globals[4]?).map (·.type) = some 168 := by kernel_rfl
theorem u130 : ∃ ms, Tryd.prog.underlying 130 = some (.interface ms) := ⟨_, Tryd.underlying130⟩
theorem trod_ifc {P : Program} {w : World} {base : Nat} {spare : Nat → Bool} {held : Bool} {fuel : Nat} {t : TypeId} {ms : Array (String × TypeId)} {cs : List Value} {name : String} {d : DataW Unit} {p : List MemPlace} (ht : P.underlying t = some (.interface ms))
    (h : DataW.trod (fun _ => ()) P w base spare held fuel t cs = some (.iface name d, p)) : ∃ u v, cs = [.iface u v] := by
  cases fuel with
  | zero => simp [DataW.trod] at h
  | succ n =>
    unfold DataW.trod at h
    rw [ht] at h
    split at h <;> simp_all
def GT (σ : Heap) : Prop := GE σ ∧ GP σ
theorem GT.mono {σ σ' : Heap} (h : GT σ) (hp : σ <+: σ') : GT σ' := ⟨h.1.mono hp, h.2.mono hp⟩
theorem var_heap {P : Program} {w : World} {n : String} {g : Nat} {cs : Array Value} (hg : P.globalNamed n = some g) (h : w.var? P n = some cs) : ∃ e frz, w.heap[g]? = some (.cells cs e frz) := by
  simp only [World.var?, hg, Option.bind_some] at h
  split at h
  · rename_i cs' e frz hc
    obtain rfl := Option.some.inj h
    exact ⟨e, frz, hc⟩
  · simp at h
theorem glot {w : World} (h : laidMetH Tryd.prog Rows.tokenJoinMatchesSpecRow.laid w) : ∃ β σ, Fo Tryd.prog.globals.size β σ w ∧ Tryd.prog.globals.size ≤ σ.length ∧ GT σ := by
  rw [MakeChecks.laidMetH_plain _ _ _ (by kernel_rfl)] at h
  obtain ⟨ps, ⟨_, _, _, _, _, q1, _, _, _, _, ⟨_, _, _, _, _, q2, _, _, _, _, ⟨g, t, cs, fuel, p, q3, hg, ht, hv, hd, ⟨g', t', cs', fuel', p', q4, hg', ht', hv', hd', ⟨g2, t2, cs2, fuel2, p2, q5, hg2, ht2, hv2, hd2, _, _⟩, _⟩, _⟩, _⟩, _⟩, _, _⟩ := h
  obtain rfl := Option.some.inj (gPow.symm.trans hg)
  obtain rfl := Option.some.inj (tPow.symm.trans ht)
  obtain rfl := Option.some.inj (gRan.symm.trans hg')
  obtain rfl := Option.some.inj (tRan.symm.trans ht')
  obtain rfl := Option.some.inj (gSyn.symm.trans hg2)
  obtain rfl := Option.some.inj (tSyn.symm.trans ht2)
  obtain ⟨ms, hms⟩ := u130
  obtain ⟨u3, v3, h3⟩ := trod_ifc hms hd'
  obtain ⟨u2, v2, h2⟩ := trod_ifc hms hd2
  have h4 := Lib.cells_of_tab (k := .u64) (zs := Lib.pow10Tab) Tryd.underlying168 Tryd.underlying138 (by kernel_rfl) (by kernel_rfl) hd
  obtain ⟨e4, z4, k4⟩ := var_heap gPow hv
  obtain ⟨e3, z3, k3⟩ := var_heap gRan hv'
  obtain ⟨e2, z2, k2⟩ := var_heap gSyn hv2
  obtain ⟨c4⟩ := cs
  obtain ⟨c3⟩ := cs'
  obtain ⟨c2⟩ := cs2
  simp only at h2 h3 h4
  subst h2 h3 h4
  have hs : (heap0 Tryd.prog).length = 7 := by rw [heap0, List.length_replicate, gSize]
  have F0 := foR Tryd.prog (fun n => if n = 4 then 20 else 1) w
  have m2 : mapR Tryd.prog (fun n => if n = 4 then 20 else 1) 2 = some ⟨2, 0, 1, false, 0⟩ := by rw [mapR, if_pos (by rw [gSize]; omega)]; rfl
  have m3 : mapR Tryd.prog (fun n => if n = 4 then 20 else 1) 3 = some ⟨3, 0, 1, false, 0⟩ := by rw [mapR, if_pos (by rw [gSize]; omega)]; rfl
  have m4 : mapR Tryd.prog (fun n => if n = 4 then 20 else 1) 4 = some ⟨4, 0, 20, false, 0⟩ := by rw [mapR, if_pos (by rw [gSize]; omega)]; rfl
  have hI : ∀ (g : Nat) (u : TypeId) (v : Value) (e : TypeId) (z : Nat × Nat), w.heap[g]? = some (.cells [Value.iface u v].toArray e z) → Holds (mapR Tryd.prog (fun n => if n = 4 then 20 else 1)) ⟨g, 0, 1, false, 0⟩ ⟨[.iface u junk], false, 0⟩ w := fun g u v e z hk => by
    refine ⟨⟨_, e, z, hk, by simp, fun h => by simp at h, fun i x hx => ?_⟩, by simp, rfl, rfl, fun x hx => ?_⟩
    · have hi := (List.getElem?_eq_some_iff.1 hx).1
      simp only [List.length_cons, List.length_nil] at hi
      obtain rfl : i = 0 := by omega
      obtain rfl := Option.some.inj hx
      exact ⟨_, rfl, .iface _ _ _ (.any _)⟩
    · obtain rfl : x = .iface u junk := by simpa using hx
      rfl
  have hp10 : p10 = Lib.pow10Tab.map fun z => Value.int .u64 z := by rw [p10, Lib.pow10Tab, List.map_map]; rfl
  have hH4 : Holds (mapR Tryd.prog (fun n => if n = 4 then 20 else 1)) ⟨4, 0, 20, false, 0⟩ ⟨p10, false, 0⟩ w := by
    refine ⟨⟨_, e4, z4, k4, by simp [Lib.pow10Tab_length], fun h => by simp at h, fun i x hx => ?_⟩, by simp [p10], rfl, rfl, fun x hx => ?_⟩
    · refine ⟨x, ?_, .scal _ ?_⟩
      · rw [hp10] at hx
        rw [Nat.zero_add, List.getElem?_toArray]
        exact hx
      · have hm := List.mem_of_getElem? hx
        rw [p10] at hm
        obtain ⟨j, _, rfl⟩ := List.mem_map.1 hm
        rfl
    · rw [p10] at hx
      obtain ⟨j, _, rfl⟩ := List.mem_map.1 hx
      rfl
  have F1 := F0.put m2 (hI 2 u2 v2 e2 z2 k2)
  have F2 := F1.put m3 (hI 3 u3 v3 e3 z3 k3)
  have F3 := F2.put m4 hH4
  refine ⟨_, _, F3, by simp [hs, gSize], ⟨⟨u2, 0, ?_⟩, ⟨u3, 0, ?_⟩⟩, ⟨0, ?_⟩⟩
  · rw [look_set_ne (by omega), look_set_ne (by omega), look_set (by rw [hs]; omega), if_pos rfl]
  · rw [look_set_ne (by omega), look_set (by rw [List.length_set, hs]; omega), if_pos rfl]
  · rw [look_set (by rw [List.length_set, List.length_set, hs]; omega), if_pos rfl]
end Go.Proofs.YtkgdkommahgakaaDoor.Abs

/- SameTokens over rows that may be nil, and the law function TokenRoundTrip (f10). -/
namespace Go.Proofs.YtkgdkommahgakaaDoor.Abs
open Go Go.RowKit Gram
set_option linter.unusedVariables false
set_option linter.unusedSimpArgs false
set_option maxRecDepth 100000

def XU : Ext := fun f args σ v σ' => XT f args σ v σ' ∨ XN Tryd.prog XT f args σ v σ'
theorem XU_sound : ∀ f args σ v σ', XU f args σ v σ' → ∀ base, CallSound Tryd.prog base f args σ v σ' ∧ σ.length ≤ σ'.length := by
  rintro f args σ v σ' (h | h) base
  · exact XT_sound f args σ v σ' h base
  · exact XN_sound (by kernel_rfl) XT_sound f args σ v σ' h base
theorem xt_xu : ∀ f args σ v σ', XT f args σ v σ' → XU f args σ v σ' := fun _ _ _ _ _ h => .inl h
theorem xn_xu : ∀ f args σ v σ', XN Tryd.prog XT f args σ v σ' → XU f args σ v σ' := fun _ _ _ _ _ h => .inr h
theorem f32_tu (A B : List Tk) (b : Bool) (va vb : Value) (σ : Heap) (hA : TV σ A va) (hB : TV σ B vb) (h1 : A.length ≤ 140737488351232) (h2 : B.length ≤ 140737488351232) :
    CW Tryd.prog XU 32 [va, vb, .bool b] σ fun v σ' => v = .bool (decide (A.map (Tk.key b) = B.map (Tk.key b))) ∧ σ <+: σ' := by
  rcases hA with ⟨rfl, rfl⟩ | ⟨n, c, ow, rfl, hA⟩ <;> rcases hB with ⟨rfl, rfl⟩ | ⟨m, d, ow2, rfl, hB⟩
  · refine (CW.wider xn_xu (CW.ghost 4 (.none 0 _ _ (.none 0 _ _ (.same _ _ _ .nil))) (f32_blk XT [] [] b σ.length σ.length 1 1 true true 4 4 _ (by rw [look_app_new, look_zero]; rfl) (by rw [look_app_new, look_zero]; rfl) h1 h2))).mono ?_
    exact fun v σ' h => ⟨h.1, ghost_pre h.2⟩
  · refine (CW.wider xn_xu (CW.ghost 4 (.none 0 _ _ (.same _ _ _ (.same _ _ _ .nil))) (f32_blk XT [] B b σ.length m 1 d true ow2 4 4 _ (by rw [look_app_new, look_zero]; rfl) (look_prefix (List.prefix_append _ _) hB) h1 h2))).mono ?_
    exact fun v σ' h => ⟨h.1, ghost_pre h.2⟩
  · refine (CW.wider xn_xu (CW.ghost 4 (.same _ _ _ (.none 0 _ _ (.same _ _ _ .nil))) (f32_blk XT A [] b n σ.length c 1 ow true 4 4 _ (look_prefix (List.prefix_append _ _) hA) (by rw [look_app_new, look_zero]; rfl) h1 h2))).mono ?_
    exact fun v σ' h => ⟨h.1, ghost_pre h.2⟩
  · exact f32_blk XU A B b n m c d ow ow2 4 4 σ hA hB h1 h2

/-! ### where a token ends -/
/-- A byte that ends a token. -/
def sepB (b : UInt8) : Prop := b = 32 ∨ b = 9 ∨ b = 59
theorem sep_nb {b : UInt8} (h : sepB b) : nbB b = false := by rcases h with rfl | rfl | rfl <;> decide
theorem sep_single {b : UInt8} (h : sepB b) : b ∉ single := by rcases h with rfl | rfl | rfl <;> decide
theorem takeWhile_sep {l r : List UInt8} {b : UInt8} (hb : sepB b) : (l ++ b :: r).takeWhile nbB = l.takeWhile nbB := by
  induction l with
  | nil => simp [sep_nb hb]
  | cons c l ih =>
    simp only [List.cons_append, List.takeWhile_cons]
    split
    · rw [ih]
    · rfl
theorem signAt_sep {l r : List UInt8} {b : UInt8} (hb : sepB b) (hl : l ≠ []) : signAt (l ++ b :: r) = signAt l := by
  match l, hl with
  | [x], _ =>
    have h60 : b ≠ 60 := by rcases hb with rfl | rfl | rfl <;> decide
    have h62 : b ≠ 62 := by rcases hb with rfl | rfl | rfl <;> decide
    simp [signAt, h60, h62]
  | x :: y :: m, _ => simp [signAt]
theorem nextT_sep {l r : List UInt8} {b : UInt8} (hb : sepB b) (hl : l ≠ []) : nextT (l ++ b :: r) = nextT l := by
  unfold nextT
  rw [signAt_sep hb hl, takeWhile_sep hb]
/-- Two halves of a line, the first without a comment. -/
theorem sp_append : ∀ (k : Nat) (l r : List UInt8) (b : UInt8) (off : Nat), l.length ≤ k → sepB b → (∀ c ∈ l, c ≠ 59) → sp off (l ++ b :: r) = match sp off l with
    | .inl e => .inl e
    | .inr L => preS L (sp (off + l.length) (b :: r))
  | k, [], r, b, off, _, _, _ => by simp [sp_nil, preS_nil]
  | 0, c :: l, r, b, off, h, _, _ => by simp at h
  | k + 1, c :: l, r, b, off, hk, hb, h59 => by
    have hc : c ≠ 59 := h59 c (by simp)
    have hl : ∀ x ∈ l, x ≠ 59 := fun x hx => h59 x (by simp [hx])
    simp only [List.length_cons] at hk
    by_cases hs : c = 32 ∨ c = 9
    · rw [List.cons_append, sp_space hs, sp_space hs, sp_append k l r b (off + 1) (by omega) hb hl, show off + 1 + l.length = off + (c :: l).length by simp; omega]
    · have hn : nextT (c :: (l ++ b :: r)) = nextT (c :: l) := nextT_sep (l := c :: l) hb (by simp)
      have hle := nextT_le (c :: l)
      by_cases h0 : (nextT (c :: l)).2 = 0
      · rw [List.cons_append, sp_bad hc hs (by rw [hn]; exact h0), sp_bad hc hs h0]
      · rw [List.cons_append, sp_tok hc hs (by rw [hn]; exact h0), sp_tok hc hs h0, hn]
        have hd : (c :: (l ++ b :: r)).drop (nextT (c :: l)).2 = (c :: l).drop (nextT (c :: l)).2 ++ b :: r := by
          rw [← List.cons_append, List.drop_append_of_le_length hle]
        have hdl : ((c :: l).drop (nextT (c :: l)).2).length = (c :: l).length - (nextT (c :: l)).2 := List.length_drop
        rw [hd, sp_append k _ r b _ (by rw [hdl]; simp; omega) hb (fun x hx => h59 x (List.mem_of_mem_drop hx)), hdl, show off + (nextT (c :: l)).2 + ((c :: l).length - (nextT (c :: l)).2) = off + (c :: l).length by omega]
        cases sp (off + (nextT (c :: l)).2) ((c :: l).drop (nextT (c :: l)).2) with
        | inl e => rfl
        | inr L =>
          simp only
          cases sp (off + (c :: l).length) (b :: r) with
          | inl e => rfl
          | inr M => rfl
def Tk.bare (x : Tk) : Tk := x.key false
/-- A line's tokens don't hang on its offset. -/
def mapS (f : List Tk → List Tk) : Nat ⊕ List Tk → Unit ⊕ List Tk
  | .inl _ => .inl ()
  | .inr L => .inr (f L)
def bareS (x : Nat ⊕ List Tk) : Unit ⊕ List Tk := mapS (List.map (Tk.key false)) x
theorem sp_off : ∀ (k : Nat) (l : List UInt8) (a b : Nat), l.length ≤ k → bareS (sp a l) = bareS (sp b l)
  | k, [], a, b, _ => rfl
  | 0, c :: l, a, b, h => by simp at h
  | k + 1, c :: l, a, b, hk => by
    simp only [List.length_cons] at hk
    by_cases h59 : c = 59
    · subst h59
      rw [sp_semi, sp_semi]
    · by_cases hs : c = 32 ∨ c = 9
      · rw [sp_space hs, sp_space hs]
        exact sp_off k l _ _ (by omega)
      · by_cases h0 : (nextT (c :: l)).2 = 0
        · rw [sp_bad h59 hs h0, sp_bad h59 hs h0]
          rfl
        · rw [sp_tok h59 hs h0, sp_tok h59 hs h0]
          have ih := sp_off k ((c :: l).drop (nextT (c :: l)).2) (a + (nextT (c :: l)).2) (b + (nextT (c :: l)).2) (by simp; omega)
          cases h1 : sp (a + (nextT (c :: l)).2) ((c :: l).drop (nextT (c :: l)).2) <;> cases h2 : sp (b + (nextT (c :: l)).2) ((c :: l).drop (nextT (c :: l)).2) <;> rw [h1, h2] at ih <;> simp_all [bareS, mapS, Tk.key]
end Go.Proofs.YtkgdkommahgakaaDoor.Abs

/- The law functions TokenRoundTrip (f10), TokenComments (f11) and TokenParts (f12). -/
namespace Go.Proofs.YtkgdkommahgakaaDoor.Abs
open Go Go.RowKit Gram
set_option linter.unusedVariables false
set_option linter.unusedSimpArgs false
set_option maxRecDepth 100000

/-! ### a comment ends a line -/
theorem sp_comment : ∀ (k : Nat) (l r : List UInt8) (off : Nat), l.length ≤ k → sp off (l ++ 59 :: r) = sp off l
  | k, [], r, off, _ => by rw [List.nil_append, sp_semi, sp_nil]
  | 0, c :: l, r, off, h => by simp at h
  | k + 1, c :: l, r, off, hk => by
    have hb : sepB 59 := .inr (.inr rfl)
    simp only [List.length_cons] at hk
    by_cases hc : c = 59
    · subst hc
      rw [List.cons_append, sp_semi, sp_semi]
    by_cases hs : c = 32 ∨ c = 9
    · rw [List.cons_append, sp_space hs, sp_space hs, sp_comment k l r _ (by omega)]
    · have hn : nextT (c :: (l ++ 59 :: r)) = nextT (c :: l) := nextT_sep (l := c :: l) hb (by simp)
      have hle := nextT_le (c :: l)
      by_cases h0 : (nextT (c :: l)).2 = 0
      · rw [List.cons_append, sp_bad hc hs (by rw [hn]; exact h0), sp_bad hc hs h0]
      · rw [List.cons_append, sp_tok hc hs (by rw [hn]; exact h0), sp_tok hc hs h0, hn]
        have hd : (c :: (l ++ 59 :: r)).drop (nextT (c :: l)).2 = (c :: l).drop (nextT (c :: l)).2 ++ 59 :: r := by
          rw [← List.cons_append, List.drop_append_of_le_length hle]
        rw [hd, sp_comment k _ r _ (by simp; omega)]
theorem splitR_bare {l m : List UInt8} (hl : l.length ≤ 8000) (hm : m.length ≤ 8000) (h : bareS (sp 0 l) = bareS (sp 0 m)) : (splitR l).2.1 = (splitR m).2.1 ∧ (splitR l).1.map (Tk.key false) = (splitR m).1.map (Tk.key false) := by
  rw [splitR, splitR, if_neg (by omega), if_neg (by omega)]
  cases h1 : sp 0 l <;> cases h2 : sp 0 m <;> rw [h1, h2] at h <;> simp_all [bareS, mapS]
theorem sp_len : ∀ (k : Nat) (l : List UInt8) (off : Nat) (L : List Tk), l.length ≤ k → sp off l = .inr L → L.length ≤ l.length
  | k, [], off, L, _, h => by rw [sp_nil] at h; obtain rfl := Sum.inr.inj h; simp
  | 0, c :: l, off, L, h, _ => by simp at h
  | k + 1, c :: l, off, L, hk, h => by
    simp only [List.length_cons] at hk
    by_cases hc : c = 59
    · subst hc
      rw [sp_semi] at h; obtain rfl := Sum.inr.inj h; simp
    by_cases hs : c = 32 ∨ c = 9
    · rw [sp_space hs] at h
      have := sp_len k l _ L (by omega) h
      simp; omega
    · by_cases h0 : (nextT (c :: l)).2 = 0
      · rw [sp_bad hc hs h0] at h
        cases h
      · rw [sp_tok hc hs h0] at h
        split at h
        · cases h
        · rename_i M hM
          obtain rfl := Sum.inr.inj h
          have hle := nextT_le (c :: l)
          have := sp_len k _ _ M (by simp; omega) hM
          simp only [List.length_drop, List.length_cons] at *
          omega
theorem splitR_len (l : List UInt8) : (splitR l).1.length ≤ 8000 := by
  unfold splitR
  split
  · simp
  · split
    · simp
    · rename_i L hL
      have := sp_len l.length l 0 L (Nat.le_refl _) hL
      simp; omega
theorem splitR_code {l : List UInt8} (h : (splitR l).2.1 ≠ 0) : (splitR l).1 = [] := by
  unfold splitR at *
  split
  · rfl
  · rename_i h1
    rw [if_neg h1] at h
    split
    · rfl
    · rename_i L hL
      rw [hL] at h
      simp at h
theorem splitR_zero {l : List UInt8} (h : (splitR l).2.1 = 0) : l.length ≤ 8000 ∧ sp 0 l = .inr (splitR l).1 := by
  unfold splitR at *
  split at h
  · simp at h
  · rename_i h1
    rw [if_neg h1]
    split at h
    · simp at h
    · rename_i L hL
      rw [hL]
      exact ⟨by omega, rfl⟩

set_option maxHeartbeats 8000000 in
theorem f11_ok (a b : List UInt8) (ha : a.length ≤ 140737488351232) (hb : b.length ≤ 140737488351232) (σ : Heap) (hG : GE σ) (hP : GP σ) :
    CW Tryd.prog XU 11 [.string (str a), .string (str b)] σ fun v σ' => v = .bool true ∧ σ <+: σ' := by
  refine cw_in Tryd.func11 rfl Tryd.ntmps11 (rs := [.tmp 4]) rfl (by kernel_rfl) (by exact Nat.le_of_ble_eq_true rfl) ?_
  simp only [go_sem, ↓reduceIte, Nat.reduceEqDiff, Nat.reduceAdd, Nat.reduceMul, Nat.reduceLT, Nat.reduceLeDiff, Int.reduceLT, Int.reduceLE, Int.reduceNeg, Int.reduceAdd, Int.reduceSub, Int.reduceMul, Int.reduceToNat, Int.reduceEq, Int.reduceNe, Int.cast_ofNat_Int, Int.natCast_one, Int.natCast_zero, Int.natCast_add, reduceCtorEq]
  refine (CW.wider xt_xu (f34_ok _ hG hP)).mono ?_
  rintro _ ρ1 ⟨rfl, hp1⟩
  simp only [go_sem, ↓reduceIte, Nat.reduceEqDiff, Nat.reduceAdd, Nat.reduceMul, Nat.reduceLT, Nat.reduceLeDiff, Int.reduceLT, Int.reduceLE, Int.reduceNeg, Int.reduceAdd, Int.reduceSub, Int.reduceMul, Int.reduceToNat, Int.reduceEq, Int.reduceNe, Int.cast_ofNat_Int, Int.natCast_one, Int.natCast_zero, Int.natCast_add, reduceCtorEq]
  refine (CW.wider xt_xu (f37_ok a (by omega) _ (hG.mono hp1))).mono ?_
  rintro _ ρ2 ⟨⟨va, rfl, hA⟩, hp2⟩
  have hs2 := sadd (P := Tryd.prog) (t := 9) (a := 32 :: 32 :: a) (b := [59]) (by simp; omega)
  have hs3 := sadd (P := Tryd.prog) (t := 9) (a := 32 :: 32 :: (a ++ [59])) (b := b) (by simp; omega)
  have hs1 := sadd (P := Tryd.prog) (t := 9) (a := [32, 32]) (b := a) (by simp; omega)
  rw [show Value.string (str [32, 32]) = Value.string ⟨#[32, 32]⟩ from rfl] at hs1
  rw [show Value.string (str [59]) = Value.string ⟨#[59]⟩ from rfl] at hs2
  have hP2 := hp1.trans hp2
  simp only [List.cons_append, List.nil_append, List.append_assoc] at hs1 hs2 hs3
  simp only [go_sem, ↓reduceIte, Nat.reduceEqDiff, Nat.reduceAdd, Nat.reduceMul, Nat.reduceLT, Nat.reduceLeDiff, Int.reduceLT, Int.reduceLE, Int.reduceNeg, Int.reduceAdd, Int.reduceSub, Int.reduceMul, Int.reduceToNat, Int.reduceEq, Int.reduceNe, Int.cast_ofNat_Int, Int.natCast_one, Int.natCast_zero, Int.natCast_add, reduceCtorEq, faultV, hs1, hs2, hs3]
  refine (CW.wider xt_xu (f37_ok (32 :: 32 :: (a ++ 59 :: b)) (by simp; omega) _ (hG.mono (hP2.trans (List.prefix_append _ _))))).mono ?_
  rintro _ ρ3 ⟨⟨vb, rfl, hB⟩, hp3⟩
  have hA3 := hA.mono ((List.prefix_append _ _).trans hp3)
  have h6 := look_prefix hp3 (show look _ ρ2.length = some _ by rw [look_app_new, look_zero])
  have hP3 := (hP2.trans (List.prefix_append _ _)).trans hp3
  have h6l := look_lt h6
  by_cases h7 : 7000 < a.length + b.length
  · have h7i : (7000 : Int) < IntKind.i64.wrap ((a.length : Int) + (b.length : Int)) := by rw [wrap64 (by omega)]; omega
    simp only [go_sem, ↓reduceIte, Nat.reduceEqDiff, Nat.reduceAdd, Nat.reduceMul, Nat.reduceLT, Nat.reduceLeDiff, Int.reduceLT, Int.reduceLE, Int.reduceNeg, Int.reduceAdd, Int.reduceSub, Int.reduceMul, Int.reduceToNat, Int.reduceEq, Int.reduceNe, Int.cast_ofNat_Int, Int.natCast_one, Int.natCast_zero, Int.natCast_add, reduceCtorEq, faultV, h7i]
    exact hP3.trans (List.prefix_append _ _)
  · have h7i : ¬ (7000 : Int) < IntKind.i64.wrap ((a.length : Int) + (b.length : Int)) := by rw [wrap64 (by omega)]; omega
    obtain ⟨e1, e2⟩ := splitR_bare (l := a) (m := 32 :: 32 :: (a ++ 59 :: b)) (by omega) (by simp; omega) (by
      rw [sp_space (.inl rfl), sp_space (.inl rfl), sp_comment a.length a b _ (Nat.le_refl _)]
      exact sp_off a.length a _ _ (Nat.le_refl _))
    simp only [go_sem, ↓reduceIte, Nat.reduceEqDiff, Nat.reduceAdd, Nat.reduceMul, Nat.reduceLT, Nat.reduceLeDiff, Int.reduceLT, Int.reduceLE, Int.reduceNeg, Int.reduceAdd, Int.reduceSub, Int.reduceMul, Int.reduceToNat, Int.reduceEq, Int.reduceNe, Int.cast_ofNat_Int, Int.natCast_one, Int.natCast_zero, Int.natCast_add, reduceCtorEq, faultV, h7i, look_app_lt h6l, h6, eq_true e1]
    refine (f32_tu (splitR a).1 _ false va vb _ (hA3.mono (List.prefix_append _ _)) (hB.mono (List.prefix_append _ _)) (by have := splitR_len a; omega) (by have := splitR_len (32 :: 32 :: (a ++ 59 :: b)); omega)).mono ?_
    rintro _ ρ4 ⟨rfl, hp4⟩
    rw [decide_eq_true e2]
    simp only [go_sem, ↓reduceIte, Nat.reduceEqDiff, Nat.reduceAdd, Nat.reduceMul, Nat.reduceLT, Nat.reduceLeDiff, Int.reduceLT, Int.reduceLE, Int.reduceNeg, Int.reduceAdd, Int.reduceSub, Int.reduceMul, Int.reduceToNat, Int.reduceEq, Int.reduceNe, Int.cast_ofNat_Int, Int.natCast_one, Int.natCast_zero, Int.natCast_add, reduceCtorEq]
    exact (hP3.trans (List.prefix_append _ _)).trans hp4

theorem TV.src {σ : Heap} {L : List Tk} {v : Value} (h : TV σ L v) : asrc σ 4 v = some (L.length, L.flatMap Tk.cells) := by
  rcases h with ⟨rfl, rfl⟩ | h
  · rfl
  · exact h.src
theorem app_two {σ : Heap} {A B : List Tk} {va vb : Value} (hA : TV σ A va) (hB : TV σ B vb) (hs : A.length + B.length ≤ 100000) :
    ∃ w1 σ1 w2 σ2, aappend Tryd.prog σ #[22, 22] (.slice none 0 0) va = some (w1, σ1) ∧ aappend Tryd.prog σ1 #[22, 22] w1 vb = some (w2, σ2) ∧ σ <+: σ2 ∧ TV σ2 (A ++ B) w2 := by
  have hal := Tk.len A
  refine ⟨.slice (some ⟨σ.length, 0, none⟩) A.length (A.length + 1), σ ++ [some ⟨A.flatMap Tk.cells, true, 4⟩], .slice (some ⟨(σ ++ [some (⟨A.flatMap Tk.cells, true, 4⟩ : Blk)]).length, 0, none⟩) (A.length + B.length) (A.length + B.length + 1), ((σ ++ [some (⟨A.flatMap Tk.cells, true, 4⟩ : Blk)]).set σ.length none) ++ [some ⟨(A ++ B).flatMap Tk.cells, true, 4⟩], ?_, ?_, ?_, ?_⟩
  · rw [an22_22, hA.src, Option.bind_some, if_pos (by simp; omega)]
  · rw [ap22_22, (hB.mono (List.prefix_append _ _)).src, Option.bind_some, if_pos (by simp; omega), if_neg (by omega), look_app_new, look_zero, Option.bind_some, if_pos (by simp [hal]), List.drop_zero, List.flatMap_append]
  · exact (prefix_set (List.prefix_append _ _) (Nat.le_refl _)).trans (List.prefix_append _ _)
  · refine .inr ⟨(σ ++ [some (⟨A.flatMap Tk.cells, true, 4⟩ : Blk)]).length, A.length + B.length + 1, true, by rw [show (A ++ B).length = A.length + B.length from List.length_append], ?_⟩
    have hh := look_app_new (σ := (σ ++ [some (⟨A.flatMap Tk.cells, true, 4⟩ : Blk)]).set σ.length none) (l := [some ⟨(A ++ B).flatMap Tk.cells, true, 4⟩])
    rw [List.length_set] at hh
    rw [hh, look_zero]
theorem TV.nil {σ : Heap} {v : Value} (h : TV σ [] v) : ∃ a c, v = .slice a 0 c := by
  rcases h with ⟨_, rfl⟩ | ⟨m, c, ow, rfl, _⟩
  · exact ⟨_, _, rfl⟩
  · exact ⟨_, _, rfl⟩
set_option maxHeartbeats 8000000 in
theorem f12_ok (a b : List UInt8) (ha : a.length ≤ 140737488351232) (hb : b.length ≤ 140737488351232) (σ : Heap) (hG : GE σ) (hP : GP σ) :
    CW Tryd.prog XU 12 [.string (str a), .string (str b)] σ fun v σ' => v = .bool true ∧ σ <+: σ' := by
  refine cw_in Tryd.func12 rfl Tryd.ntmps12 (rs := [.tmp 4]) rfl (by kernel_rfl) (by exact Nat.le_of_ble_eq_true rfl) ?_
  have b59 : ∀ c : UInt8, ((c.toNat : Int) = 59) = (c = 59) := fun c => u8_eq c 59 (by omega)
  simp only [go_sem, ↓reduceIte, Nat.reduceEqDiff, Nat.reduceAdd, Nat.reduceMul, Nat.reduceLT, Nat.reduceLeDiff, Int.reduceLT, Int.reduceLE, Int.reduceNeg, Int.reduceAdd, Int.reduceSub, Int.reduceMul, Int.reduceToNat, Int.reduceEq, Int.reduceNe, Int.cast_ofNat_Int, Int.natCast_one, Int.natCast_zero, Int.natCast_add, reduceCtorEq]
  refine (CW.wider xt_xu (f34_ok _ hG hP)).mono ?_
  rintro _ ρ1 ⟨rfl, hp1⟩
  simp only [go_sem, ↓reduceIte, Nat.reduceEqDiff, Nat.reduceAdd, Nat.reduceMul, Nat.reduceLT, Nat.reduceLeDiff, Int.reduceLT, Int.reduceLE, Int.reduceNeg, Int.reduceAdd, Int.reduceSub, Int.reduceMul, Int.reduceToNat, Int.reduceEq, Int.reduceNe, Int.cast_ofNat_Int, Int.natCast_one, Int.natCast_zero, Int.natCast_add, reduceCtorEq]
  refine LW_run (fun k T ρ => ∃ i : Nat, i + k = a.length ∧ ρ1 = ρ ∧ T 0 = .string (str a) ∧ T 1 = .string (str b) ∧ T 5 = .int .i64 i ∧ ∀ c ∈ a.take i, c ≠ 59) a.length
    ⟨0, by simp, rfl, rfl, rfl, rfl, by simp⟩ ?_
  rintro k T _ ⟨i, hk, rfl, t0, t1, t5, hV⟩
  simp only [go_sem, ↓reduceIte, Nat.reduceEqDiff, Nat.reduceAdd, Nat.reduceMul, Nat.reduceLT, Nat.reduceLeDiff, Int.reduceLT, Int.reduceLE, Int.reduceNeg, Int.reduceAdd, Int.reduceSub, Int.reduceMul, Int.reduceToNat, Int.reduceEq, Int.reduceNe, Int.cast_ofNat_Int, Int.natCast_one, Int.natCast_zero, Int.natCast_add, reduceCtorEq, t0, t1, t5]
  refine fork_dec (fun _ => ?_) (fun _ => ?_)
  · rename_i hi
    obtain ⟨c, hc⟩ : ∃ c, a[i]? = some c := ⟨_, List.getElem?_eq_getElem (by omega)⟩
    have hw : IntKind.i64.wrap ((i : Int) + 1) = (i : Int) + 1 := wrap64 (by omega)
    by_cases h59 : c = 59
    · simp only [go_sem, ↓reduceIte, Nat.reduceEqDiff, Nat.reduceAdd, Nat.reduceMul, Nat.reduceLT, Nat.reduceLeDiff, Int.reduceLT, Int.reduceLE, Int.reduceNeg, Int.reduceAdd, Int.reduceSub, Int.reduceMul, Int.reduceToNat, Int.reduceEq, Int.reduceNe, Int.cast_ofNat_Int, Int.natCast_one, Int.natCast_zero, Int.natCast_add, reduceCtorEq, t0, t1, t5, hi, hc, b59, h59]
      exact hp1
    · simp only [go_sem, ↓reduceIte, Nat.reduceEqDiff, Nat.reduceAdd, Nat.reduceMul, Nat.reduceLT, Nat.reduceLeDiff, Int.reduceLT, Int.reduceLE, Int.reduceNeg, Int.reduceAdd, Int.reduceSub, Int.reduceMul, Int.reduceToNat, Int.reduceEq, Int.reduceNe, Int.cast_ofNat_Int, Int.natCast_one, Int.natCast_zero, Int.natCast_add, reduceCtorEq, t0, t1, t5, hi, hc, b59, eq_false h59, hw]
      refine ⟨k - 1, by omega, i + 1, by omega, rfl, fun x hx => ?_⟩
      rw [List.take_add_one, hc] at hx
      rcases List.mem_append.1 hx with hx | hx
      · exact hV x hx
      · simp at hx; subst hx; exact h59
  · rename_i hi
    have hii : i = a.length := by omega
    subst hii
    rw [List.take_length] at hV
    simp only [go_sem, ↓reduceIte, Nat.reduceEqDiff, Nat.reduceAdd, Nat.reduceMul, Nat.reduceLT, Nat.reduceLeDiff, Int.reduceLT, Int.reduceLE, Int.reduceNeg, Int.reduceAdd, Int.reduceSub, Int.reduceMul, Int.reduceToNat, Int.reduceEq, Int.reduceNe, Int.cast_ofNat_Int, Int.natCast_one, Int.natCast_zero, Int.natCast_add, reduceCtorEq, t0, t1, t5]
    refine (CW.wider xt_xu (f37_ok a (by omega) _ (hG.mono hp1))).mono ?_
    rintro _ ρ2 ⟨⟨va, rfl, hA⟩, hp2⟩
    have hP2 := hp1.trans hp2
    simp only [go_sem, ↓reduceIte, Nat.reduceEqDiff, Nat.reduceAdd, Nat.reduceMul, Nat.reduceLT, Nat.reduceLeDiff, Int.reduceLT, Int.reduceLE, Int.reduceNeg, Int.reduceAdd, Int.reduceSub, Int.reduceMul, Int.reduceToNat, Int.reduceEq, Int.reduceNe, Int.cast_ofNat_Int, Int.natCast_one, Int.natCast_zero, Int.natCast_add, reduceCtorEq, t0, t1, t5, faultV]
    refine (CW.wider xt_xu (f37_ok b (by omega) _ (hG.mono (hP2.trans (List.prefix_append _ _))))).mono ?_
    rintro _ ρ3 ⟨⟨vb, rfl, hB⟩, hp3⟩
    have hP3 := (hP2.trans (List.prefix_append _ _)).trans hp3
    have hs1 := sadd (P := Tryd.prog) (t := 9) (a := a) (b := [32]) (by simp; omega)
    have hs2 := sadd (P := Tryd.prog) (t := 9) (a := a ++ [32]) (b := b) (by simp; omega)
    rw [show Value.string (str [32]) = Value.string ⟨#[32]⟩ from rfl] at hs1
    simp only [List.append_assoc, List.cons_append, List.nil_append] at hs1 hs2
    simp only [go_sem, ↓reduceIte, Nat.reduceEqDiff, Nat.reduceAdd, Nat.reduceMul, Nat.reduceLT, Nat.reduceLeDiff, Int.reduceLT, Int.reduceLE, Int.reduceNeg, Int.reduceAdd, Int.reduceSub, Int.reduceMul, Int.reduceToNat, Int.reduceEq, Int.reduceNe, Int.cast_ofNat_Int, Int.natCast_one, Int.natCast_zero, Int.natCast_add, reduceCtorEq, t0, t1, t5, faultV, hs1, hs2]
    refine (CW.wider xt_xu (f37_ok (a ++ 32 :: b) (by simp; omega) _ (hG.mono (hP3.trans (List.prefix_append _ _))))).mono ?_
    rintro _ ρ4 ⟨⟨vc, rfl, hC⟩, hp4⟩
    have hP4 := (hP3.trans (List.prefix_append _ _)).trans hp4
    have h9 := look_prefix hp4 (show look _ ρ3.length = some _ by rw [look_app_new, look_zero])
    have h7 := look_prefix ((List.prefix_append _ _).trans hp4) (look_prefix hp3 (show look _ ρ2.length = some _ by rw [look_app_new, look_zero]))
    have hA4 := ((hA.mono (List.prefix_append _ _)).mono hp3).mono ((List.prefix_append _ _).trans hp4)
    have hB4 := hB.mono ((List.prefix_append _ _).trans hp4)
    have h9l := look_lt h9
    have h7l := look_lt h7
    clear hA hB hp2 hp3 hp4
    generalize ρ2.length = p7 at *
    generalize ρ3.length = p9 at *
    by_cases c1 : (splitR a).2.1 = 0
    · by_cases c2 : (splitR b).2.1 = 0
      · by_cases hL : 7000 < a.length + b.length
        · have hLi : (7000 : Int) < IntKind.i64.wrap ((a.length : Int) + (b.length : Int)) := by rw [wrap64 (by omega)]; omega
          simp only [go_sem, ↓reduceIte, Nat.reduceEqDiff, Nat.reduceAdd, Nat.reduceMul, Nat.reduceLT, Nat.reduceLeDiff, Int.reduceLT, Int.reduceLE, Int.reduceNeg, Int.reduceAdd, Int.reduceSub, Int.reduceMul, Int.reduceToNat, Int.reduceEq, Int.reduceNe, Int.cast_ofNat_Int, Int.natCast_one, Int.natCast_zero, Int.natCast_add, reduceCtorEq, t0, t1, t5, faultV, look_app_lt h7l, look_app_lt h9l, h7, h9, eq_true c1, eq_true c2, hLi]
          exact hP4.trans (List.prefix_append _ _)
        · have hLi : ¬ (7000 : Int) < IntKind.i64.wrap ((a.length : Int) + (b.length : Int)) := by rw [wrap64 (by omega)]; omega
          obtain ⟨_, s1⟩ := splitR_zero c1
          obtain ⟨_, s2⟩ := splitR_zero c2
          have s3 := sp_append a.length a b 32 0 (Nat.le_refl _) (.inl rfl) hV
          rw [s1, sp_space (.inl rfl)] at s3
          simp only at s3
          have s4 := sp_off b.length b (0 + a.length + 1) 0 (Nat.le_refl _)
          rw [s2] at s4
          obtain ⟨M, hM, hMk⟩ : ∃ M, sp (0 + a.length + 1) b = .inr M ∧ M.map (Tk.key false) = (splitR b).1.map (Tk.key false) := by
            cases hx : sp (0 + a.length + 1) b with
            | inl e => rw [hx] at s4; simp [bareS, mapS] at s4
            | inr M => rw [hx] at s4; exact ⟨M, rfl, by simpa [bareS, mapS] using s4⟩
          rw [hM] at s3
          have s5 : splitR (a ++ 32 :: b) = ((splitR a).1 ++ M, 0, 0) := by rw [splitR, if_neg (by simp; omega), s3]; rfl
          rw [s5] at hC ⊢
          have hAl := splitR_len a
          have hBl := splitR_len b
          obtain ⟨w1, σ1, w2, σ2, ap1, ap2, hp5, hW⟩ := app_two (hA4.mono (List.prefix_append _ [some (⟨[.int .i64 0, .int .i64 0], true, 0⟩ : Blk)])) (hB4.mono (List.prefix_append _ [some (⟨[.int .i64 0, .int .i64 0], true, 0⟩ : Blk)])) (by omega)
          simp only [go_sem, ↓reduceIte, Nat.reduceEqDiff, Nat.reduceAdd, Nat.reduceMul, Nat.reduceLT, Nat.reduceLeDiff, Int.reduceLT, Int.reduceLE, Int.reduceNeg, Int.reduceAdd, Int.reduceSub, Int.reduceMul, Int.reduceToNat, Int.reduceEq, Int.reduceNe, Int.cast_ofNat_Int, Int.natCast_one, Int.natCast_zero, Int.natCast_add, reduceCtorEq, t0, t1, t5, faultV, look_app_lt h7l, look_app_lt h9l, h7, h9, eq_true c1, eq_true c2, hLi, ap1, ap2]
          have hMl : M.length = (splitR b).1.length := by have := congrArg List.length hMk; simpa using this
          refine (f32_tu ((splitR a).1 ++ M) ((splitR a).1 ++ (splitR b).1) false vc w2 _ ((hC.mono (List.prefix_append _ _)).mono hp5) hW (by simp; omega) (by simp; omega)).mono ?_
          rintro _ ρ6 ⟨rfl, hp6⟩
          have hkk : ((splitR a).1 ++ M).map (Tk.key false) = ((splitR a).1 ++ (splitR b).1).map (Tk.key false) := by rw [List.map_append, List.map_append, hMk]
          rw [decide_eq_true hkk]
          simp only [go_sem, ↓reduceIte, Nat.reduceEqDiff, Nat.reduceAdd, Nat.reduceMul, Nat.reduceLT, Nat.reduceLeDiff, Int.reduceLT, Int.reduceLE, Int.reduceNeg, Int.reduceAdd, Int.reduceSub, Int.reduceMul, Int.reduceToNat, Int.reduceEq, Int.reduceNe, Int.cast_ofNat_Int, Int.natCast_one, Int.natCast_zero, Int.natCast_add, reduceCtorEq, t0, t1, t5]
          exact ((hP4.trans (List.prefix_append _ _)).trans hp5).trans hp6
      · simp only [go_sem, ↓reduceIte, Nat.reduceEqDiff, Nat.reduceAdd, Nat.reduceMul, Nat.reduceLT, Nat.reduceLeDiff, Int.reduceLT, Int.reduceLE, Int.reduceNeg, Int.reduceAdd, Int.reduceSub, Int.reduceMul, Int.reduceToNat, Int.reduceEq, Int.reduceNe, Int.cast_ofNat_Int, Int.natCast_one, Int.natCast_zero, Int.natCast_add, reduceCtorEq, t0, t1, t5, faultV, look_app_lt h7l, look_app_lt h9l, h7, h9, eq_true c1, eq_false c2]
        exact hP4.trans (List.prefix_append _ _)
    · rw [splitR_code c1] at hA4
      obtain ⟨aa, ac, rfl⟩ := hA4.nil
      simp only [go_sem, ↓reduceIte, Nat.reduceEqDiff, Nat.reduceAdd, Nat.reduceMul, Nat.reduceLT, Nat.reduceLeDiff, Int.reduceLT, Int.reduceLE, Int.reduceNeg, Int.reduceAdd, Int.reduceSub, Int.reduceMul, Int.reduceToNat, Int.reduceEq, Int.reduceNe, Int.cast_ofNat_Int, Int.natCast_one, Int.natCast_zero, Int.natCast_add, reduceCtorEq, t0, t1, t5, faultV, look_app_lt h7l, look_app_lt h9l, h7, h9, eq_false c1]
      exact hP4.trans (List.prefix_append _ _)

/-! ### what Join wrote, Split reads -/
theorem nb_single {b : UInt8} (h : nbB b = true) : b ∉ single ∧ b ≠ 60 ∧ b ≠ 62 ∧ b ≠ 59 ∧ b ≠ 32 ∧ b ≠ 9 := by
  refine ⟨fun hm => ?_, ?_, ?_, ?_, ?_, ?_⟩
  · have : ∀ c ∈ single, nbB c = false := by decide
    rw [this b hm] at h; cases h
  all_goals (rintro rfl; exact absurd h (by decide))
theorem names_next {l : List UInt8} (h : l.all nbB = true) (h0 : l ≠ []) : signAt l = [] ∧ l.takeWhile nbB = l ∧ (∀ c ∈ l, c ≠ 59) ∧ ∃ c r, l = c :: r ∧ c ≠ 59 ∧ ¬ (c = 32 ∨ c = 9) := by
  have hall := List.all_eq_true.1 h
  match l, h0 with
  | c :: r, _ =>
    have hc := nb_single (hall c (by simp))
    refine ⟨?_, ?_, fun x hx => (nb_single (hall x hx)).2.2.2.1, c, r, rfl, hc.2.2.2.1, fun hh => hh.elim hc.2.2.2.2.1 hc.2.2.2.2.2⟩
    · rw [signAt, if_neg, if_neg]
      · rintro ⟨b, hb, hm⟩
        obtain rfl := Option.some.inj hb
        exact hc.1 hm
      · rintro ⟨h2, h3⟩
        match r, h2 with
        | d :: r', _ =>
          simp only [List.take_succ_cons, List.take_zero, List.cons.injEq, and_true] at h3
          rcases h3 with h3 | h3
          · exact hc.2.1 h3.1
          · exact hc.2.2.1 h3.1
    · have : ∀ m : List UInt8, (∀ x ∈ m, nbB x = true) → m.takeWhile nbB = m := by
        intro m
        induction m with
        | nil => intro _; rfl
        | cons y m ih => intro hm; rw [List.takeWhile_cons, if_pos (hm y (by simp)), ih (fun x hx => hm x (by simp [hx]))]
      exact this _ hall
theorem dig_nb {b : UInt8} (h : digB b = true) : nbB b = true := by
  unfold digB dig at h
  unfold nbB nb
  simp only [decide_eq_true_eq] at *
  omega
/-- The text of a valid token is one token, itself. -/
theorem text_next {x : Tk} (h : validT x = true) : (nextT (textOf x)).2 = (textOf x).length ∧ ((nextT (textOf x)).1.kind = x.kind ∧ (nextT (textOf x)).1.text = x.text ∧ (nextT (textOf x)).1.value = x.value) ∧ (∀ c ∈ textOf x, c ≠ 59) ∧ ∃ c r, textOf x = c :: r ∧ c ≠ 59 ∧ ¬ (c = 32 ∨ c = 9) := by
  have hv := valid_val h
  unfold validT at h
  unfold textOf
  by_cases k1 : x.kind = 1
  · rw [if_pos k1] at h
    rw [if_neg (by omega)]
    simp only [Bool.and_eq_true, decide_eq_true_eq] at h
    have hall : x.text.all nbB = true ∧ x.text ≠ [] := by
      have := h.1
      unfold nameOk at this
      simp only [Bool.and_eq_true, decide_eq_true_eq] at this
      exact ⟨this.2.2.1, fun h => by rw [h] at this; simp at this⟩
    obtain ⟨n1, n2, n3, n4⟩ := names_next hall.1 hall.2
    refine ⟨?_, ?_, n3, n4⟩
    · rw [nextT, if_neg (by simp [n1]), n2, if_neg (by rw [name_den h.1]; simp), if_pos h.1]
    · rw [nextT, if_neg (by simp [n1]), n2, if_neg (by rw [name_den h.1]; simp), if_pos h.1]
      exact ⟨k1.symm, rfl, h.2.symm⟩
  rw [if_neg k1] at h
  by_cases k2 : x.kind = 2
  · rw [if_pos k2] at h
    rw [if_pos k2]
    simp only [Bool.and_eq_true, decide_eq_true_eq] at h
    obtain ⟨n, hn⟩ : ∃ n : Nat, x.value = n := ⟨x.value.toNat, by omega⟩
    have hnum : num x.value = dec n := by rw [hn, num, if_neg (by omega)]; rfl
    rw [hnum]
    have hall : (dec n).all nbB = true := List.all_eq_true.2 fun b hb => dig_nb (dec_digs n b hb)
    obtain ⟨n1, n2, n3, n4⟩ := names_next hall (dec_ne n)
    have hd := den_dec (n := n) (by omega)
    have hl : 0 < (dec n).length := List.length_pos_iff.2 (dec_ne n)
    refine ⟨?_, ?_, n3, n4⟩
    · rw [nextT, if_neg (by simp [n1]), n2, if_pos ⟨by rw [hd], hl⟩]
    · rw [nextT, if_neg (by simp [n1]), n2, if_pos ⟨by rw [hd], hl⟩]
      exact ⟨k2.symm, h.1.symm, by rw [hd, hn]⟩
  rw [if_neg k2] at h
  by_cases k3 : x.kind = 3
  · rw [if_pos k3] at h
    rw [if_neg k2]
    simp only [Bool.and_eq_true, decide_eq_true_eq] at h
    obtain ⟨s1, s2⟩ := (signAt_iff x.text).2 h.1
    have hs : ∀ l ∈ signs, (∀ c ∈ l, c ≠ 59) ∧ (l.head?.any fun c => decide (c ≠ 59 ∧ ¬ (c = 32 ∨ c = 9))) = true := by decide
    obtain ⟨s3, s4⟩ := hs _ h.1
    refine ⟨?_, ?_, s3, ?_⟩
    · rw [nextT, if_pos (by rw [s2]; exact s1), s2]
    · rw [nextT, if_pos (by rw [s2]; exact s1), s2]
      exact ⟨k3.symm, rfl, h.2.symm⟩
    · match hx : x.text, s1 with
      | c :: r, _ =>
        rw [hx] at s4
        simp only [List.head?_cons, Option.any_some, decide_eq_true_eq] at s4
        exact ⟨c, r, rfl, s4.1, s4.2⟩
  · rw [if_neg k3] at h
    cases h
theorem sp_text {x : Tk} (h : validT x = true) (off : Nat) : sp off (textOf x) = .inr [⟨x.kind, x.text, x.value, (off : Int)⟩] := by
  obtain ⟨h1, ⟨h2, h3, h4⟩, h5, c, r, h6, h7, h8⟩ := text_next h
  rw [h6] at h1 h2 h3 h4 ⊢
  rw [sp_tok h7 h8 (by rw [h1]; simp), h1, List.drop_length, sp_nil, h2, h3, h4]
theorem sp_join : ∀ (A : List Tk) (off : Nat), (∀ x ∈ A, validT x = true) → ∃ L, sp off (joinT A) = .inr L ∧ L.map (Tk.key false) = A.map (Tk.key false)
  | [], off, _ => ⟨[], rfl, rfl⟩
  | [x], off, h => by
    refine ⟨[⟨x.kind, x.text, x.value, (off : Int)⟩], ?_, rfl⟩
    rw [joinT, List.map_cons, List.map_nil, Lib.join_one]
    exact sp_text (h x (by simp)) off
  | x :: y :: A, off, h => by
    obtain ⟨L, hL, hk⟩ := sp_join (y :: A) (off + (textOf x).length + 1) (fun z hz => h z (by simp [hz]))
    have hj : joinT (x :: y :: A) = textOf x ++ 32 :: joinT (y :: A) := by
      rw [joinT, joinT, List.map_cons, Lib.join_cons, List.map_cons, Lib.join_cons]
      simp [Lib.joinTail]
    have hx := h x (by simp)
    obtain ⟨_, _, h5, _⟩ := text_next hx
    refine ⟨⟨x.kind, x.text, x.value, (off : Int)⟩ :: L, ?_, ?_⟩
    · rw [hj, sp_append _ _ _ 32 off (Nat.le_refl _) (.inl rfl) h5, sp_text hx, sp_space (.inl rfl), hL]
      rfl
    · rw [List.map_cons, hk]
      rfl
set_option maxHeartbeats 8000000 in
theorem f10_ok (A : List Tk) (n c : Nat) (ow : Bool) (σ : Heap) (hl : look σ n = some ⟨A.flatMap Tk.cells, ow, 4⟩) (hG : GE σ) (hP : GP σ) (ht : ∀ x ∈ A, x.text.length ≤ 140737488351232) (hz : A.length ≤ 140737488351232) :
    CW Tryd.prog XU 10 [.slice (some ⟨n, 0, none⟩) A.length c] σ fun v σ' => v = .bool true ∧ σ <+: σ' := by
  refine cw_in Tryd.func10 rfl Tryd.ntmps10 (rs := [.tmp 2]) rfl (by kernel_rfl) (by exact Nat.le_of_ble_eq_true rfl) ?_
  simp only [go_sem, ↓reduceIte, Nat.reduceEqDiff, Nat.reduceAdd, Nat.reduceMul, Nat.reduceLT, Nat.reduceLeDiff, Int.reduceLT, Int.reduceLE, Int.reduceNeg, Int.reduceAdd, Int.reduceSub, Int.reduceMul, Int.reduceToNat, Int.reduceEq, Int.reduceNe, Int.cast_ofNat_Int, Int.natCast_one, Int.natCast_zero, Int.natCast_add, reduceCtorEq]
  refine (CW.wider xt_xu (f34_ok _ hG hP)).mono ?_
  rintro _ ρ1 ⟨rfl, hp1⟩
  simp only [go_sem, ↓reduceIte, Nat.reduceEqDiff, Nat.reduceAdd, Nat.reduceMul, Nat.reduceLT, Nat.reduceLeDiff, Int.reduceLT, Int.reduceLE, Int.reduceNeg, Int.reduceAdd, Int.reduceSub, Int.reduceMul, Int.reduceToNat, Int.reduceEq, Int.reduceNe, Int.cast_ofNat_Int, Int.natCast_one, Int.natCast_zero, Int.natCast_add, reduceCtorEq]
  refine (CW.wider xt_xu (f35_ok A n c ow 4 _ (look_prefix hp1 hl) ht hz (hP.mono hp1))).mono ?_
  rintro _ ρ2 ⟨rfl, hp2⟩
  have hP2 := hp1.trans hp2
  by_cases hc : (joinF A).2.1 = 0
  · obtain ⟨j1, j2, j3, j4⟩ := joinF_zero hc
    rw [j4]
    simp only [go_sem, ↓reduceIte, Nat.reduceEqDiff, Nat.reduceAdd, Nat.reduceMul, Nat.reduceLT, Nat.reduceLeDiff, Int.reduceLT, Int.reduceLE, Int.reduceNeg, Int.reduceAdd, Int.reduceSub, Int.reduceMul, Int.reduceToNat, Int.reduceEq, Int.reduceNe, Int.cast_ofNat_Int, Int.natCast_one, Int.natCast_zero, Int.natCast_add, reduceCtorEq, faultV]
    refine (CW.wider xt_xu (f37_ok (joinT A) (by omega) _ (hG.mono (hP2.trans (List.prefix_append _ _))))).mono ?_
    rintro _ ρ3 ⟨⟨vb, rfl, hB⟩, hp3⟩
    have hP3 := (hP2.trans (List.prefix_append _ _)).trans hp3
    obtain ⟨L, hL, hk⟩ := sp_join A 0 j2
    have hR : splitR (joinT A) = (L, 0, 0) := by rw [splitR, if_neg (by omega), hL]
    have hLl : L.length = A.length := by have := congrArg List.length hk; simpa using this
    rw [hR] at hB ⊢
    simp only [go_sem, ↓reduceIte, Nat.reduceEqDiff, Nat.reduceAdd, Nat.reduceMul, Nat.reduceLT, Nat.reduceLeDiff, Int.reduceLT, Int.reduceLE, Int.reduceNeg, Int.reduceAdd, Int.reduceSub, Int.reduceMul, Int.reduceToNat, Int.reduceEq, Int.reduceNe, Int.cast_ofNat_Int, Int.natCast_one, Int.natCast_zero, Int.natCast_add, reduceCtorEq, faultV]
    refine (f32_tu L A false vb _ _ (hB.mono (List.prefix_append _ _)) (.inr ⟨n, c, ow, rfl, look_prefix (hP3.trans (List.prefix_append _ _)) hl⟩) (by omega) hz).mono ?_
    rintro _ ρ4 ⟨rfl, hp4⟩
    rw [decide_eq_true hk]
    simp only [go_sem, ↓reduceIte, Nat.reduceEqDiff, Nat.reduceAdd, Nat.reduceMul, Nat.reduceLT, Nat.reduceLeDiff, Int.reduceLT, Int.reduceLE, Int.reduceNeg, Int.reduceAdd, Int.reduceSub, Int.reduceMul, Int.reduceToNat, Int.reduceEq, Int.reduceNe, Int.cast_ofNat_Int, Int.natCast_one, Int.natCast_zero, Int.natCast_add, reduceCtorEq]
    exact (hP3.trans (List.prefix_append _ _)).trans hp4
  · have hj : (joinF A).1 = [] := by
      by_cases h1 : 4000 < A.length
      · rw [joinF_long h1]
      · unfold joinF at *
        rw [if_neg h1] at hc ⊢
        split
        · rfl
        · rename_i h2
          rw [h2] at hc
          split
          · rfl
          · rename_i h3
            simp [h3] at hc
    rw [hj]
    simp only [go_sem, ↓reduceIte, Nat.reduceEqDiff, Nat.reduceAdd, Nat.reduceMul, Nat.reduceLT, Nat.reduceLeDiff, Int.reduceLT, Int.reduceLE, Int.reduceNeg, Int.reduceAdd, Int.reduceSub, Int.reduceMul, Int.reduceToNat, Int.reduceEq, Int.reduceNe, Int.cast_ofNat_Int, Int.natCast_one, Int.natCast_zero, Int.natCast_add, reduceCtorEq, faultV, eq_false hc]
    exact hP2.trans (List.prefix_append _ _)
end Go.Proofs.YtkgdkommahgakaaDoor.Abs
