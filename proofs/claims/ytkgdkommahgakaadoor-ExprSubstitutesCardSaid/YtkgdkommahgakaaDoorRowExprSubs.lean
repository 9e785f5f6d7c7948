/- The law ExprSubstitutes holds of the program, with what its variables hold laid. -/
import Derived.Test.YtkgdkommahgakaaDoorRows
import Derived.Test.YtkgdkommahgakaaDoorLawExprSubs
import Derived.WalkKit
import Derived.ProofKit
import Derived.LaidMore
import Derived.OpenShut
import Derived.ShutString
import Derived.ChangeOld
import Derived.Below
import Derived.SizedLaws
import Derived.Stop.Joined
import Derived.SevenTiedAt
namespace Go.Proofs.YtkgdkommahgakaaDoor.exprSubstitutes
open Go.ChangeShapes Go.WideShapes Go.ChangeAt Go.RowKit
open Go.Proofs.YtkgdkommahgakaaDoor.Abs
set_option linter.unusedVariables false
theorem hfn : Tryd.pinned.checked.prog.funcNamed Rows.exprSubstitutesRow.func = some 5 := by kernel_rfl
theorem hclosed : joinedFacts Tryd.pinned.checked.prog 5 Tryd.f5 Rows.exprSubstitutesSpec Rows.exprSubstitutesRow = true := by kernel_rfl
theorem hinst : Tryd.f5.isInstance Tryd.pinned.checked.prog Rows.exprSubstitutesRow.origin Rows.exprSubstitutesRow.targs := of_decide_eq_true (by kernel_rfl)
theorem over : Rows.exprSubstitutesRow.holds Tryd.pinned (OpenSpec.ofChange Rows.exprSubstitutesSpec) :=
  OpenClaim.holds_of_wide 5 Tryd.f5 rfl rfl rfl rfl rfl rfl rfl ⟨rfl, rfl, rfl, rfl, rfl⟩ rfl rfl rfl rfl rfl hfn Tryd.func5 hclosed
    hinst (by unfold Func.isWrapper; first | (rw [if_pos (by decide +kernel)]; kernel_rfl) | (rw [if_neg (by decide +kernel)]; exact ⟨rfl, rfl⟩))
    (fun os started H enc _ => lifted os started H enc)
theorem proved : Rows.ExprSubstitutesSaid := over
end Go.Proofs.YtkgdkommahgakaaDoor.exprSubstitutes
