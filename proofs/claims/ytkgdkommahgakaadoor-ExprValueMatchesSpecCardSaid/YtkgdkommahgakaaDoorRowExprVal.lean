/- The law ExprValueMatchesSpec holds of the program, with what its variables hold laid. -/
import Derived.Test.YtkgdkommahgakaaDoorRows
import Derived.Test.YtkgdkommahgakaaDoorLawExprVal
import Derived.WalkKit
import Derived.ProofKit
import Derived.LaidMore
import Derived.OpenShut
import Derived.ShutString
import Derived.ChangeOld
import Derived.Below
import Derived.SizedLaws
import Derived.Stop.Joined
import Derived.SevenTiedAt
namespace Go.Proofs.YtkgdkommahgakaaDoor.exprValueMatchesSpec
open Go.ChangeShapes Go.WideShapes Go.ChangeAt Go.RowKit
open Go.Proofs.YtkgdkommahgakaaDoor.Abs
set_option linter.unusedVariables false
theorem hfn : Tryd.pinned.checked.prog.funcNamed Rows.exprValueMatchesSpecRow.func = some 4 := by kernel_rfl
theorem hclosed : joinedFacts Tryd.pinned.checked.prog 4 Tryd.f4 Rows.exprValueMatchesSpecSpec Rows.exprValueMatchesSpecRow = true := by kernel_rfl
theorem hinst : Tryd.f4.isInstance Tryd.pinned.checked.prog Rows.exprValueMatchesSpecRow.origin Rows.exprValueMatchesSpecRow.targs := of_decide_eq_true (by kernel_rfl)
theorem over : Rows.exprValueMatchesSpecRow.holds Tryd.pinned (OpenSpec.ofChange Rows.exprValueMatchesSpecSpec) :=
  OpenClaim.holds_of_wide 4 Tryd.f4 rfl rfl rfl rfl rfl rfl rfl ⟨rfl, rfl, rfl, rfl, rfl⟩ rfl rfl rfl rfl rfl hfn Tryd.func4 hclosed
    hinst (by unfold Func.isWrapper; first | (rw [if_pos (by decide +kernel)]; kernel_rfl) | (rw [if_neg (by decide +kernel)]; exact ⟨rfl, rfl⟩))
    (fun os started H enc _ => lifted os started H enc)
theorem proved : Rows.ExprValueMatchesSpecSaid := over
end Go.Proofs.YtkgdkommahgakaaDoor.exprValueMatchesSpec
