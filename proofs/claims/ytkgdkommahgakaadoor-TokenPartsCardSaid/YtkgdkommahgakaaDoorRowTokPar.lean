/- The law TokenParts holds of the program, with what its variables hold laid. -/
import Derived.Test.YtkgdkommahgakaaDoorRows
import Derived.Test.YtkgdkommahgakaaDoorLawTokPar
import Derived.WalkKit
import Derived.ProofKit
import Derived.LaidMore
import Derived.OpenShut
import Derived.ShutString
import Derived.ChangeOld
import Derived.Below
import Derived.SizedLaws
import Derived.Stop.Joined
import Derived.SevenTiedAt
namespace Go.Proofs.YtkgdkommahgakaaDoor.tokenParts
open Go.ChangeShapes Go.WideShapes Go.ChangeAt Go.RowKit
open Go.Proofs.YtkgdkommahgakaaDoor.Abs
set_option linter.unusedVariables false
theorem hfn : Tryd.pinned.checked.prog.funcNamed Rows.tokenPartsRow.func = some 12 := by kernel_rfl
theorem band {a b : Bool} (h : a = true) (k : b = true) : (a && b) = true := by rw [h, k]; rfl
set_option maxHeartbeats 0 in
theorem hclosed : joinedFacts Tryd.pinned.checked.prog 12 Tryd.f12 Rows.tokenPartsSpec Rows.tokenPartsRow = true := by
  unfold joinedFacts
  repeat' (with_reducible refine band ?_ ?_)
  all_goals (as_aux_lemma => kernel_rfl)
theorem hinst : Tryd.f12.isInstance Tryd.pinned.checked.prog Rows.tokenPartsRow.origin Rows.tokenPartsRow.targs := of_decide_eq_true (by kernel_rfl)
theorem over : Rows.tokenPartsRow.holds Tryd.pinned (OpenSpec.ofChange Rows.tokenPartsSpec) :=
  OpenClaim.holds_of_wide 12 Tryd.f12 rfl rfl rfl rfl rfl rfl rfl ⟨rfl, rfl, rfl, rfl, rfl⟩ rfl rfl rfl rfl rfl hfn Tryd.func12 hclosed
    hinst (by unfold Func.isWrapper; first | (rw [if_pos (by decide +kernel)]; kernel_rfl) | (rw [if_neg (by decide +kernel)]; exact ⟨rfl, rfl⟩))
    (fun os started H enc _ => lifted os started H enc)
theorem proved : Rows.TokenPartsSaid := over
end Go.Proofs.YtkgdkommahgakaaDoor.tokenParts
