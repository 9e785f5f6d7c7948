/- The law TokenParts holds of the program, with what its variables hold laid. -/
import Derived.Test.YtkgdkommahgakaaDoorRows
import Derived.Test.YtkgdkommahgakaaDoorGroupH
import Derived.Test.YtkgdkommahgakaaDoorGroupO
import Derived.Test.YtkgdkommahgakaaDoorGroupO
import Derived.Test.YtkgdkommahgakaaDoorTie
import Derived.Test.YtkgdkommahgakaaDoorCards
import Derived.WalkKit
import Derived.ProofKit
import Derived.LaidMore
import Derived.OpenShut
import Derived.ShutString
import Derived.ChangeOld
import Derived.Below
import Derived.SizedLaws
import Derived.Stop.Joined
import Derived.SevenTiedAt
namespace Go.Proofs.YtkgdkommahgakaaDoor.tokenParts
open Go.ChangeShapes Go.WideShapes Go.ChangeAt Go.RowKit
open Go.Proofs.YtkgdkommahgakaaDoor.Abs
set_option linter.unusedVariables false
theorem own : ownKnob Tryd.prog.godebug = none := by kernel_rfl
theorem laidOut : laidOutB Tryd.prog = true := by kernel_rfl
theorem mixed : Tryd.prog.follows .mixedOrders = true := by kernel_rfl
theorem door_met (os : Os) (args : Array Value) : laidMetH Tryd.prog Rows.tokenPartsRow.laid ((World.doorLaid Tryd.prog 400 os).forCall (fun _ _ => 0) ⟨#[], args, []⟩).memory :=
  laidMetH_of_parts3 (fuel := 8) (laidMet_of_run' 8 (by kernel_rfl) (by kernel_rfl)) (by kernel_rfl) (by kernel_rfl)
set_option maxRecDepth 100000 in
theorem lifted (os : Os) (started : os.Started) (H : Type) (enc : TypeId × Value → H) :
    ReturnsInHanded {} Tryd.checked os 12 .any (fun w args => (Rows.tokenPartsSpec.pre enc Tryd.prog Tryd.f12 [] false w args ∧ laidMetH Tryd.prog Rows.tokenPartsRow.laid w) ∧ sizedMet enc Tryd.prog Tryd.f12 (OpenSpec.ofChange Rows.tokenPartsSpec) false w args)
      (Rows.tokenPartsSpec.post enc Tryd.prog Tryd.f12 false true false false) := by
  refine returnsInHanded_of_change_and (C := Tryd.checked) (X := fun w _ => laidMetH Tryd.prog Rows.tokenPartsRow.laid w) (fun _ _ _ hh h => h.of_heap hh) own started (by kernel_rfl) Tryd.func12
    (ChangeSpec.witness_shaped (enc := enc) (C := Tryd.checked) (os := os) (X := fun w _ => laidMetH Tryd.prog Rows.tokenPartsRow.laid w) false (World.doorLaid Tryd.prog 400 os) #[.string (ByteArray.mk #[]), .string (ByteArray.mk #[])] 8 rfl (World.shaped_of_RefB (by kernel_rfl) (by kernel_rfl)) (by kernel_rfl) (by kernel_rfl) (by kernel_rfl) (door_met os _)) ?_
  intro W base args ds gs before hval0 hW hcnd hsz0 hL _
  have hsz : (DataW.weightsEach Tryd.prog (Tryd.f12.params.toList ++ Rows.tokenPartsSpec.plain.varTypes Tryd.prog) (ds ++ gs)).all (· ≤ reachBytes) = true := hsz0
  have hval : ∀ (j : Nat) t v, Tryd.f12.params[j]? = some t → args[j]? = some v → Value.okWide Tryd.prog W .any base t v := hval0
  have hW' := hW
  obtain ⟨p, q, hA0, hV, rfl, hfz, hnd⟩ := hW
  have hA : DataW.TrodAll enc Tryd.prog W 0 (fun _ => true) true Tryd.f12.params.toList args.toList ds p := hA0
  rw [Tryd.params12] at hA hval hsz
  obtain ⟨v0, vs0, d0, ds0, p0, q0, hargs, rfl, rfl, h0, r0⟩ := trodAll_cons hA
  obtain ⟨v1, vs1, d1, ds1, p1, q1, rfl, rfl, rfl, h1, r1⟩ := trodAll_cons r0
  obtain ⟨rfl, rfl, rfl⟩ := trodAll_nil r1
  obtain rfl : args = #[v0, v1] := by cases args; simp_all
  obtain ⟨rfl, rfl⟩ := trodVars_none hV
  obtain ⟨x0, rfl, rfl, rfl, ws0⟩ := Go.ChangeMaps.open_string Tryd.underlying9 (hval 0 9 v0 rfl rfl) h0
  have z0' := sized_string hsz (j := 0) (t := 9) rfl rfl
  obtain ⟨L0, rfl⟩ : ∃ L, x0 = str L := ⟨_, str_of rfl⟩
  have z0 : L0.length ≤ 140737488351232 := z0'
  obtain ⟨x1, rfl, rfl, rfl, ws1⟩ := Go.ChangeMaps.open_string Tryd.underlying9 (hval 1 9 v1 rfl rfl) h1
  have z1' := sized_string hsz (j := 1) (t := 9) rfl rfl
  obtain ⟨L1, rfl⟩ : ∃ L, x1 = str L := ⟨_, str_of rfl⟩
  have z1 : L1.length ≤ 140737488351232 := z1'
  obtain ⟨βg, σg, Fg, lg, hGL0⟩ := glot hL
  have hGL := hGL0.mono (List.prefix_rfl)
  clear hA0 hval0 hsz0
  refine (law_calls mixed XU_sound (σ := σg) ((f12_ok L0 L1 z0 z1 _ hGL.1 hGL.2).mono fun v σ' h => h.1) (.cons _ _ _ _ (.scal _ rfl) (.cons _ _ _ _ (.scal _ rfl) .nil)) Fg).mono fun e W' ⟨he, bel⟩ => ?_
  subst he
  exact ⟨_, rfl, _, _, _, [], _, [], hW', trodAll_mk1 (shut_bool Tryd.underlying4 _), (trodAll_cons_mk (Go.ChangeMaps.shut_string Tryd.underlying9 ws0) (trodAll_cons_mk (Go.ChangeMaps.shut_string Tryd.underlying9 ws1) trodAll_mk0)), rfl, bel.frame _, fun h => by cases h⟩
end Go.Proofs.YtkgdkommahgakaaDoor.tokenParts
