/- The law ExprParseMatchesSpec holds of the program, with what its variable holds laid. -/
import Derived.Test.YtkgdkommahgakaaDoorRows
import Derived.Test.YtkgdkommahgakaaDoorRowExprParse
import Derived.Test.YtkgdkommahgakaaDoorTie
import Derived.Test.YtkgdkommahgakaaDoorCards
import Derived.WalkKit
import Derived.ProofKit
import Derived.LaidMore
import Derived.OpenShut
import Derived.ShutString
import Derived.ChangeOld
import Derived.Below
import Derived.SizedLaws
import Derived.Stop.Joined
import Derived.SevenTiedAt
namespace Go.Proofs.YtkgdkommahgakaaDoor.exprParseMatchesSpec
open Go.ChangeShapes Go.WideShapes Go.ChangeAt Go.RowKit
open Go.Proofs.YtkgdkommahgakaaDoor.Abs
set_option linter.unusedVariables false
theorem card : Rows.ExprParseMatchesSpecCardSaid :=
  Claim7.holds_tied_plain_at .later [] [.widerDeep] true (true, "0ca557de170b840248090098192cf9bdd225b7262e9a34baa86cfe0e8780dfc7") true
    proved (fun _ h => by cases h) (by kernel_rfl) (fun _ h => by cases h) exprParseMatchesSpec_row_tie rfl ⟨rfl, rfl⟩ (by kernel_rfl) rfl
    (fun f fn hf hfn => by
      obtain rfl : f = 3 := Option.some.inj ((show Tryd.prog.funcNamed "linkhouse/linkhouselaw1.ExprParseMatchesSpec" = some 3 by kernel_rfl).symm.trans hf) |>.symm
      obtain rfl : fn = Tryd.f3 := (Option.some.inj (Tryd.func3.symm.trans hfn)).symm
      exact ⟨by kernel_rfl, fun j t ht => by
        rw [Tryd.params3] at ht
        have hm : t ∈ [22] := by simpa using Array.mem_of_getElem? ht
        have hall : ([22].all fun u => !Tryd.prog.wantsStandIn u) = true := by kernel_rfl
        exact (show Tryd.prog.wantsStandIn t = false by simpa using List.all_eq_true.1 hall t hm)⟩)
    (by kernel_rfl)
#print axioms card
end Go.Proofs.YtkgdkommahgakaaDoor.exprParseMatchesSpec
namespace Go.Proofs.YtkgdkommahgakaaDoor
/-- The card, under a short name, for the claim. -/
theorem exprParseMatchesSpec_holds : Rows.ExprParseMatchesSpecCardSaid := exprParseMatchesSpec.card
end Go.Proofs.YtkgdkommahgakaaDoor
