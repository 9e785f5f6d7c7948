import Derived.Test.YtcjhgnbkdiopkaaRows
import Derived.Test.YtcjhgnbkdiopkaaArgs
import Derived.Test.YtcjhgnbkdiopkaaMono
import Derived.WalkKit
import Derived.ProofKit
import Derived.OpenShut
import Derived.ShutString
import Derived.ChangeOld
import Derived.Below
import Derived.SizedLaws
namespace Go.Proofs.Ytcjhgnbkdiopkaa.fragmentMonotone
open Go.ChangeShapes Go.WideShapes Go.ChangeAt Go.RowKit
open Go.Proofs.Ytcjhgnbkdiopkaa.Abs
set_option linter.unusedVariables false
theorem own : ownKnob Try.prog.godebug = none := by kernel_rfl
theorem laidOut : laidOutB Try.prog = true := by kernel_rfl
theorem mixed : Try.prog.follows .mixedOrders = true := by kernel_rfl
set_option maxRecDepth 100000 in
theorem lifted (os : Os) (started : os.Started) (H : Type) (enc : TypeId × Value → H) :
    ReturnsInHanded {} Try.checked os 3 .any (Rows.fragmentMonotoneSpec.pre6 enc Try.prog Try.f3 Rows.fragmentMonotoneRow.domain false) (Rows.fragmentMonotoneSpec.post enc Try.prog Try.f3 false true false false) := by
  refine returnsInHanded_of_change_sized (C := Try.checked) own started (by kernel_rfl) Try.func3
    (ChangeSpec.witness6 (enc := enc) (C := Try.checked) false ⟨#[], #[.slice none 0 0, .slice none 0 0, .int .i64 0], []⟩ 8 (by kernel_rfl) (by kernel_rfl) (by kernel_rfl) (by kernel_rfl)) ?_
  intro W base args ds gs before hval0 hW hcnd hsz0 _
  have hsz : (DataW.weightsEach Try.prog (Try.f3.params.toList ++ Rows.fragmentMonotoneSpec.plain.varTypes Try.prog) (ds ++ gs)).all (· ≤ reachBytes) = true := hsz0
  have hval : ∀ (j : Nat) t v, Try.f3.params[j]? = some t → args[j]? = some v → Value.okWide Try.prog W .any base t v := hval0
  have hW' := hW
  obtain ⟨p, q, hA0, hV, rfl, hfz, hnd⟩ := hW
  have hA : DataW.TrodAll enc Try.prog W 0 (fun _ => true) true Try.f3.params.toList args.toList ds p := hA0
  rw [Try.params3] at hA hval hsz
  obtain ⟨v0, vs0, d0, ds0, p0, q0, hargs, rfl, rfl, h0, r0⟩ := trodAll_cons hA
  obtain ⟨v1, vs1, d1, ds1, p1, q1, rfl, rfl, rfl, h1, r1⟩ := trodAll_cons r0
  obtain ⟨v2, vs2, d2, ds2, p2, q2, rfl, rfl, rfl, h2, r2⟩ := trodAll_cons r1
  obtain ⟨rfl, rfl, rfl⟩ := trodAll_nil r2
  obtain rfl : args = #[v0, v1, v2] := by cases args; simp_all
  obtain ⟨rfl, rfl⟩ := trodVars_none hV
  obtain ⟨a0, len0, cap0, rfl⟩ := okWide_slice Try.underlying22 (hval 0 22 v0 rfl rfl)
  have k0 := h0
  have lt0 : ∀ x ∈ p0, x.block < W.heap.size := by obtain ⟨m, hm⟩ := k0; exact DataW.trod_lt m _ _ _ hm
  obtain ⟨a1, len1, cap1, rfl⟩ := okWide_slice Try.underlying23 (hval 1 23 v1 rfl rfl)
  have k1 := h1
  have lt1 : ∀ x ∈ p1, x.block < W.heap.size := by obtain ⟨m, hm⟩ := k1; exact DataW.trod_lt m _ _ _ hm
  obtain ⟨i, rfl, rfl, rfl, wi⟩ := open_int Try.underlying3 (hval 2 3 v2 rfl rfl) h2
  obtain ⟨β1, σ1, x0, F1, G1, -, s1, R1, D1⟩ := open_arg (d := 4) hsz (j := 0) (t := 22) rfl rfl (by kernel_rfl) rfl h0 (fo0 _ W) (Abs.len0 _)
  obtain ⟨β2, σ2, x1, F2, G2, e2, s2, R2, D2⟩ := open_arg (d := 4) hsz (j := 1) (t := 23) rfl rfl (by kernel_rfl) rfl h1 F1 G1
  obtain ⟨n0, L, rfl, l0, z0⟩ := frags_of D1
  obtain ⟨n1, B, rfl, l1, z1⟩ := bools_of D2
  clear hA0 hval0 hsz0 hsz
  refine (law_calls mixed noExt_sound (f3_ok noExt L B i n0 _ n1 _ false false 6 1 σ2 (look_prefix e2 l0) l1 z1 z0) (.cons _ _ _ _ (R1.mono s2) (.cons _ _ _ _ R2 (.cons _ _ _ _ (.scal _ rfl) .nil))) F2).mono fun e W' ⟨he, bel⟩ => ?_
  subst he
  exact ⟨_, rfl, _, _, _, [], _, [], hW', trodAll_mk1 (shut_bool Try.underlying4 _), trodAll_cons_mk (Below.trod laidOut (by kernel_rfl) (of_decide_eq_true (by kernel_rfl)) k0 bel lt0) (trodAll_cons_mk (Below.trod laidOut (by kernel_rfl) (of_decide_eq_true (by kernel_rfl)) k1 bel lt1) (trodAll_cons_mk (shut_int Try.underlying3 wi) trodAll_mk0)), rfl, bel.frame _, fun h => by cases h⟩
theorem over : Rows.fragmentMonotoneRow.holds Try.pinned (OpenSpec.ofChange Rows.fragmentMonotoneSpec) :=
  OpenClaim.holds_of_wide 3 Try.f3 rfl rfl rfl rfl rfl rfl rfl ⟨rfl, rfl, rfl, rfl, rfl⟩ rfl rfl rfl rfl rfl (by kernel_rfl) Try.func3 (by kernel_rfl)
    (of_decide_eq_true (by kernel_rfl)) (by unfold Func.isWrapper; first | (rw [if_pos (by decide +kernel)]; kernel_rfl) | (rw [if_neg (by decide +kernel)]; exact ⟨rfl, rfl⟩))
    (fun os started H enc _ => lifted os started H enc)
theorem proved : Rows.FragmentMonotoneSaid := over
#print axioms proved
end Go.Proofs.Ytcjhgnbkdiopkaa.fragmentMonotone
namespace Go.Proofs.Ytcjhgnbkdiopkaa
/-- The row, under a short name, for the claim. -/
theorem fragmentMonotone_holds : Rows.FragmentMonotoneSaid := fragmentMonotone.proved
end Go.Proofs.Ytcjhgnbkdiopkaa
