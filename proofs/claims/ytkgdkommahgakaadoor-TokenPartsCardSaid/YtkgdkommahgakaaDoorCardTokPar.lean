/- The law TokenParts holds of the program, with what its variables hold laid. -/
import Derived.Test.YtkgdkommahgakaaDoorRows
import Derived.Test.YtkgdkommahgakaaDoorRowTokPar
import Derived.Test.YtkgdkommahgakaaDoorTie
import Derived.Test.YtkgdkommahgakaaDoorCards
import Derived.WalkKit
import Derived.ProofKit
import Derived.LaidMore
import Derived.OpenShut
import Derived.ShutString
import Derived.ChangeOld
import Derived.Below
import Derived.SizedLaws
import Derived.Stop.Joined
import Derived.SevenTiedAt
namespace Go.Proofs.YtkgdkommahgakaaDoor.tokenParts
open Go.ChangeShapes Go.WideShapes Go.ChangeAt Go.RowKit
open Go.Proofs.YtkgdkommahgakaaDoor.Abs
set_option linter.unusedVariables false
theorem hw : Rows.tokenPartsRow.wfByText (OpenSpec.ofChange Rows.tokenPartsSpec) = true := by kernel_rfl
theorem hmain : Tryd.pinned.checked.prog.mainIs = some ((true, "0ca557de170b840248090098192cf9bdd225b7262e9a34baa86cfe0e8780dfc7").1, ((true, "0ca557de170b840248090098192cf9bdd225b7262e9a34baa86cfe0e8780dfc7").2 : String).toList) := by kernel_rfl
theorem hlooks : true = Tryd.pinned.checked.prog.looks [] := by kernel_rfl
theorem hgoes : false = Rows.tokenPartsRow.goesBy Tryd.pinned.checked.prog := by kernel_rfl
theorem hstand : ([9].all fun u => !Tryd.prog.wantsStandIn u) = true := by kernel_rfl
theorem card : Rows.TokenPartsCardSaid :=
  Claim7.holds_tied_plain_at .later [] [.data, .data, .data, .sentinel, .sentinel] true (true, "0ca557de170b840248090098192cf9bdd225b7262e9a34baa86cfe0e8780dfc7") true
    proved (fun _ h => by cases h) hw (fun _ h => by cases h) tokenParts_row_tie rfl ⟨rfl, rfl⟩ hmain rfl
    (fun f fn hf hfn => by
      obtain rfl : f = 12 := Option.some.inj (tokenParts.hfn.symm.trans hf) |>.symm
      obtain rfl : fn = Tryd.f12 := (Option.some.inj (Tryd.func12.symm.trans hfn)).symm
      exact ⟨hlooks, fun j t ht => by
        rw [Tryd.params12] at ht
        have hm : t ∈ [9] := by simpa using Array.mem_of_getElem? ht
        exact (show Tryd.prog.wantsStandIn t = false by simpa using List.all_eq_true.1 hstand t hm)⟩)
    hgoes
#print axioms card
end Go.Proofs.YtkgdkommahgakaaDoor.tokenParts
namespace Go.Proofs.YtkgdkommahgakaaDoor
/-- The card, under a short name, for the claim. -/
theorem tokenParts_holds : Rows.TokenPartsCardSaid := tokenParts.card
end Go.Proofs.YtkgdkommahgakaaDoor
