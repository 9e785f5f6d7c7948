/- The law ExprRoundTrip holds of the program, with what its variables hold laid. -/
import Derived.Test.YtkgdkommahgakaaDoorRows
import Derived.Test.YtkgdkommahgakaaDoorLawExprTrip
import Derived.WalkKit
import Derived.ProofKit
import Derived.LaidMore
import Derived.OpenShut
import Derived.ShutString
import Derived.ChangeOld
import Derived.Below
import Derived.SizedLaws
import Derived.Stop.Joined
import Derived.SevenTiedAt
namespace Go.Proofs.YtkgdkommahgakaaDoor.exprRoundTrip
open Go.ChangeShapes Go.WideShapes Go.ChangeAt Go.RowKit
open Go.Proofs.YtkgdkommahgakaaDoor.Abs
set_option linter.unusedVariables false
theorem hfn : Tryd.pinned.checked.prog.funcNamed Rows.exprRoundTripRow.func = some 8 := by kernel_rfl
theorem hclosed : joinedFacts Tryd.pinned.checked.prog 8 Tryd.f8 Rows.exprRoundTripSpec Rows.exprRoundTripRow = true := by kernel_rfl
theorem hinst : Tryd.f8.isInstance Tryd.pinned.checked.prog Rows.exprRoundTripRow.origin Rows.exprRoundTripRow.targs := of_decide_eq_true (by kernel_rfl)
theorem over : Rows.exprRoundTripRow.holds Tryd.pinned (OpenSpec.ofChange Rows.exprRoundTripSpec) :=
  OpenClaim.holds_of_wide 8 Tryd.f8 rfl rfl rfl rfl rfl rfl rfl ⟨rfl, rfl, rfl, rfl, rfl⟩ rfl rfl rfl rfl rfl hfn Tryd.func8 hclosed
    hinst (by unfold Func.isWrapper; first | (rw [if_pos (by decide +kernel)]; kernel_rfl) | (rw [if_neg (by decide +kernel)]; exact ⟨rfl, rfl⟩))
    (fun os started H enc _ => lifted os started H enc)
theorem proved : Rows.ExprRoundTripSaid := over
end Go.Proofs.YtkgdkommahgakaaDoor.exprRoundTrip
