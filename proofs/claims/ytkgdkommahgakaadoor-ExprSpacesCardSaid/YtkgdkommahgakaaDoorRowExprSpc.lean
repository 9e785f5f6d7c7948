/- The law ExprSpaces holds of the program, with what its variables hold laid. -/
import Derived.Test.YtkgdkommahgakaaDoorRows
import Derived.Test.YtkgdkommahgakaaDoorLawExprSpc
import Derived.WalkKit
import Derived.ProofKit
import Derived.LaidMore
import Derived.OpenShut
import Derived.ShutString
import Derived.ChangeOld
import Derived.Below
import Derived.SizedLaws
import Derived.Stop.Joined
import Derived.SevenTiedAt
namespace Go.Proofs.YtkgdkommahgakaaDoor.exprSpaces
open Go.ChangeShapes Go.WideShapes Go.ChangeAt Go.RowKit
open Go.Proofs.YtkgdkommahgakaaDoor.Abs
set_option linter.unusedVariables false
theorem hfn : Tryd.pinned.checked.prog.funcNamed Rows.exprSpacesRow.func = some 6 := by kernel_rfl
theorem hclosed : joinedFacts Tryd.pinned.checked.prog 6 Tryd.f6 Rows.exprSpacesSpec Rows.exprSpacesRow = true := by kernel_rfl
theorem hinst : Tryd.f6.isInstance Tryd.pinned.checked.prog Rows.exprSpacesRow.origin Rows.exprSpacesRow.targs := of_decide_eq_true (by kernel_rfl)
theorem over : Rows.exprSpacesRow.holds Tryd.pinned (OpenSpec.ofChange Rows.exprSpacesSpec) :=
  OpenClaim.holds_of_wide 6 Tryd.f6 rfl rfl rfl rfl rfl rfl rfl ⟨rfl, rfl, rfl, rfl, rfl⟩ rfl rfl rfl rfl rfl hfn Tryd.func6 hclosed
    hinst (by unfold Func.isWrapper; first | (rw [if_pos (by decide +kernel)]; kernel_rfl) | (rw [if_neg (by decide +kernel)]; exact ⟨rfl, rfl⟩))
    (fun os started H enc _ => lifted os started H enc)
theorem proved : Rows.ExprSpacesSaid := over
end Go.Proofs.YtkgdkommahgakaaDoor.exprSpaces
