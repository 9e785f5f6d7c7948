/- The law ExprTokensMatchesSpec holds of the program, with what its variables hold laid. -/
import Derived.Test.YtkgdkommahgakaaDoorRows
import Derived.Test.YtkgdkommahgakaaDoorLawExprToks
import Derived.WalkKit
import Derived.ProofKit
import Derived.LaidMore
import Derived.OpenShut
import Derived.ShutString
import Derived.ChangeOld
import Derived.Below
import Derived.SizedLaws
import Derived.Stop.Joined
import Derived.SevenTiedAt
namespace Go.Proofs.YtkgdkommahgakaaDoor.exprTokensMatchesSpec
open Go.ChangeShapes Go.WideShapes Go.ChangeAt Go.RowKit
open Go.Proofs.YtkgdkommahgakaaDoor.Abs
set_option linter.unusedVariables false
theorem hfn : Tryd.pinned.checked.prog.funcNamed Rows.exprTokensMatchesSpecRow.func = some 7 := by kernel_rfl
theorem hclosed : joinedFacts Tryd.pinned.checked.prog 7 Tryd.f7 Rows.exprTokensMatchesSpecSpec Rows.exprTokensMatchesSpecRow = true := by kernel_rfl
theorem hinst : Tryd.f7.isInstance Tryd.pinned.checked.prog Rows.exprTokensMatchesSpecRow.origin Rows.exprTokensMatchesSpecRow.targs := of_decide_eq_true (by kernel_rfl)
theorem over : Rows.exprTokensMatchesSpecRow.holds Tryd.pinned (OpenSpec.ofChange Rows.exprTokensMatchesSpecSpec) :=
  OpenClaim.holds_of_wide 7 Tryd.f7 rfl rfl rfl rfl rfl rfl rfl ⟨rfl, rfl, rfl, rfl, rfl⟩ rfl rfl rfl rfl rfl hfn Tryd.func7 hclosed
    hinst (by unfold Func.isWrapper; first | (rw [if_pos (by decide +kernel)]; kernel_rfl) | (rw [if_neg (by decide +kernel)]; exact ⟨rfl, rfl⟩))
    (fun os started H enc _ => lifted os started H enc)
theorem proved : Rows.ExprTokensMatchesSpecSaid := over
end Go.Proofs.YtkgdkommahgakaaDoor.exprTokensMatchesSpec
