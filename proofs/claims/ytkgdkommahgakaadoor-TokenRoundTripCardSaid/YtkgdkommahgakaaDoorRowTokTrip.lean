/- The law TokenRoundTrip holds of the program, with what its variables hold laid. -/
import Derived.Test.YtkgdkommahgakaaDoorRows
import Derived.Test.YtkgdkommahgakaaDoorLawTokTrip
import Derived.WalkKit
import Derived.ProofKit
import Derived.LaidMore
import Derived.OpenShut
import Derived.ShutString
import Derived.ChangeOld
import Derived.Below
import Derived.SizedLaws
import Derived.Stop.Joined
import Derived.SevenTiedAt
namespace Go.Proofs.YtkgdkommahgakaaDoor.tokenRoundTrip
open Go.ChangeShapes Go.WideShapes Go.ChangeAt Go.RowKit
open Go.Proofs.YtkgdkommahgakaaDoor.Abs
set_option linter.unusedVariables false
theorem hfn : Tryd.pinned.checked.prog.funcNamed Rows.tokenRoundTripRow.func = some 10 := by kernel_rfl
theorem band {a b : Bool} (h : a = true) (k : b = true) : (a && b) = true := by rw [h, k]; rfl
set_option maxHeartbeats 0 in
theorem hclosed : joinedFacts Tryd.pinned.checked.prog 10 Tryd.f10 Rows.tokenRoundTripSpec Rows.tokenRoundTripRow = true := by
  unfold joinedFacts
  repeat' (with_reducible refine band ?_ ?_)
  all_goals (as_aux_lemma => kernel_rfl)
theorem hinst : Tryd.f10.isInstance Tryd.pinned.checked.prog Rows.tokenRoundTripRow.origin Rows.tokenRoundTripRow.targs := of_decide_eq_true (by kernel_rfl)
theorem over : Rows.tokenRoundTripRow.holds Tryd.pinned (OpenSpec.ofChange Rows.tokenRoundTripSpec) :=
  OpenClaim.holds_of_wide 10 Tryd.f10 rfl rfl rfl rfl rfl rfl rfl ⟨rfl, rfl, rfl, rfl, rfl⟩ rfl rfl rfl rfl rfl hfn Tryd.func10 hclosed
    hinst (by unfold Func.isWrapper; first | (rw [if_pos (by decide +kernel)]; kernel_rfl) | (rw [if_neg (by decide +kernel)]; exact ⟨rfl, rfl⟩))
    (fun os started H enc _ => lifted os started H enc)
theorem proved : Rows.TokenRoundTripSaid := over
end Go.Proofs.YtkgdkommahgakaaDoor.tokenRoundTrip
