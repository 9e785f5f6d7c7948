/- The law ExprParseMatchesSpec holds of the program, with what its variable holds laid. -/
import Derived.Test.YtkgdkommahgakaaDoorRows
import Derived.Test.YtkgdkommahgakaaDoorLawExprParse
import Derived.WalkKit
import Derived.ProofKit
import Derived.LaidMore
import Derived.OpenShut
import Derived.ShutString
import Derived.ChangeOld
import Derived.Below
import Derived.SizedLaws
import Derived.Stop.Joined
import Derived.SevenTiedAt
namespace Go.Proofs.YtkgdkommahgakaaDoor.exprParseMatchesSpec
open Go.ChangeShapes Go.WideShapes Go.ChangeAt Go.RowKit
open Go.Proofs.YtkgdkommahgakaaDoor.Abs
set_option linter.unusedVariables false
theorem hfn : Tryd.pinned.checked.prog.funcNamed Rows.exprParseMatchesSpecRow.func = some 3 := by kernel_rfl
theorem hclosed : joinedFacts Tryd.pinned.checked.prog 3 Tryd.f3 Rows.exprParseMatchesSpecSpec Rows.exprParseMatchesSpecRow = true := by kernel_rfl
theorem hinst : Tryd.f3.isInstance Tryd.pinned.checked.prog Rows.exprParseMatchesSpecRow.origin Rows.exprParseMatchesSpecRow.targs := of_decide_eq_true (by kernel_rfl)
theorem over : Rows.exprParseMatchesSpecRow.holds Tryd.pinned (OpenSpec.ofChange Rows.exprParseMatchesSpecSpec) :=
  OpenClaim.holds_of_wide 3 Tryd.f3 rfl rfl rfl rfl rfl rfl rfl ⟨rfl, rfl, rfl, rfl, rfl⟩ rfl rfl rfl rfl rfl hfn Tryd.func3 hclosed
    hinst (by unfold Func.isWrapper; first | (rw [if_pos (by decide +kernel)]; kernel_rfl) | (rw [if_neg (by decide +kernel)]; exact ⟨rfl, rfl⟩))
    (fun os started H enc _ => lifted os started H enc)
theorem proved : Rows.ExprParseMatchesSpecSaid := over
end Go.Proofs.YtkgdkommahgakaaDoor.exprParseMatchesSpec
