/-
  DERIVED. GIVEN WITH THE SEED: THE CARDS: each row of YtkgdkommahgakaaDoorRows.lean that lists a variable, with what it lists TIED to the program's text (the seventh form; the later family's looks); each row that meets fmt, with fmt's text TOLD by the authors' own Lean function (tested against real Go, not proved from fmt's source: count such statements apart). THE CARD IS WHAT COUNTS. Prove the row's statement (the work); the ties are given (YtkgdkommahgakaaDoorTie.lean); close each card by the builder's one call (the guide's Derived/Test/ToyasCard.lean, 'card_holds'). Laid BY PROGRAM, IN A SANDBOX (cutbox-door.mjs). By AI agents, Wed Nov 11 2026. No macro, syntax, notation, axiom, sorry.
-/
import Derived.Test.YtkgdkommahgakaaDoorRows
import GoSem.ClaimSeven
namespace Go.Proofs.YtkgdkommahgakaaDoor
namespace Rows

/-- THE TIED CARD OF 'linkhouselaw1.ExprParseMatchesSpec'. -/
def exprParseMatchesSpecCard : Claim7 := { stood := { row := exprParseMatchesSpecRow, standIns := [], harness := (true, "0ca557de170b840248090098192cf9bdd225b7262e9a34baa86cfe0e8780dfc7"), looks := true }, kinds := [], alts := [], laidByText := true, laidKinds := [.widerDeep], laidTests := true, laidLooks := .later }
def ExprParseMatchesSpecCardSaid : Prop := Claim7.holds Tryd.pinned (.plain (OpenSpec.ofChange exprParseMatchesSpecSpec)) exprParseMatchesSpecCard

/-- THE TIED CARD OF 'linkhouselaw1.ExprValueMatchesSpec'. -/
def exprValueMatchesSpecCard : Claim7 := { stood := { row := exprValueMatchesSpecRow, standIns := [], harness := (true, "0ca557de170b840248090098192cf9bdd225b7262e9a34baa86cfe0e8780dfc7"), looks := true }, kinds := [], alts := [], laidByText := true, laidKinds := [.widerDeep], laidTests := true, laidLooks := .later }
def ExprValueMatchesSpecCardSaid : Prop := Claim7.holds Tryd.pinned (.plain (OpenSpec.ofChange exprValueMatchesSpecSpec)) exprValueMatchesSpecCard

/-- THE TIED CARD OF 'linkhouselaw1.ExprSubstitutes'. -/
def exprSubstitutesCard : Claim7 := { stood := { row := exprSubstitutesRow, standIns := [], harness := (true, "0ca557de170b840248090098192cf9bdd225b7262e9a34baa86cfe0e8780dfc7"), looks := true }, kinds := [], alts := [], laidByText := true, laidKinds := [.widerDeep], laidTests := true, laidLooks := .later }
def ExprSubstitutesCardSaid : Prop := Claim7.holds Tryd.pinned (.plain (OpenSpec.ofChange exprSubstitutesSpec)) exprSubstitutesCard

/-- THE TIED CARD OF 'linkhouselaw1.ExprSpaces'. -/
def exprSpacesCard : Claim7 := { stood := { row := exprSpacesRow, standIns := [], harness := (true, "0ca557de170b840248090098192cf9bdd225b7262e9a34baa86cfe0e8780dfc7"), looks := true }, kinds := [], alts := [], laidByText := true, laidKinds := [.widerDeep], laidTests := true, laidLooks := .later }
def ExprSpacesCardSaid : Prop := Claim7.holds Tryd.pinned (.plain (OpenSpec.ofChange exprSpacesSpec)) exprSpacesCard

/-- THE TIED CARD OF 'linkhouselaw1.ExprTokensMatchesSpec'. -/
def exprTokensMatchesSpecCard : Claim7 := { stood := { row := exprTokensMatchesSpecRow, standIns := [], harness := (true, "0ca557de170b840248090098192cf9bdd225b7262e9a34baa86cfe0e8780dfc7"), looks := true }, kinds := [], alts := [], laidByText := true, laidKinds := [.widerDeep], laidTests := true, laidLooks := .later }
def ExprTokensMatchesSpecCardSaid : Prop := Claim7.holds Tryd.pinned (.plain (OpenSpec.ofChange exprTokensMatchesSpecSpec)) exprTokensMatchesSpecCard

/-- THE TIED CARD OF 'linkhouselaw1.ExprRoundTrip'. -/
def exprRoundTripCard : Claim7 := { stood := { row := exprRoundTripRow, standIns := [], harness := (true, "0ca557de170b840248090098192cf9bdd225b7262e9a34baa86cfe0e8780dfc7"), looks := true }, kinds := [], alts := [], laidByText := true, laidKinds := [.widerDeep], laidTests := true, laidLooks := .later }
def ExprRoundTripCardSaid : Prop := Claim7.holds Tryd.pinned (.plain (OpenSpec.ofChange exprRoundTripSpec)) exprRoundTripCard

/-- THE TIED CARD OF 'linkhouselaw1.TokenJoinMatchesSpec'. -/
def tokenJoinMatchesSpecCard : Claim7 := { stood := { row := tokenJoinMatchesSpecRow, standIns := [], harness := (true, "0ca557de170b840248090098192cf9bdd225b7262e9a34baa86cfe0e8780dfc7"), looks := true }, kinds := [], alts := [], laidByText := true, laidKinds := [.data, .data, .data, .sentinel, .sentinel], laidTests := true, laidLooks := .later }
def TokenJoinMatchesSpecCardSaid : Prop := Claim7.holds Tryd.pinned (.plain (OpenSpec.ofChange tokenJoinMatchesSpecSpec)) tokenJoinMatchesSpecCard

/-- THE TIED CARD OF 'linkhouselaw1.TokenRoundTrip'. -/
def tokenRoundTripCard : Claim7 := { stood := { row := tokenRoundTripRow, standIns := [], harness := (true, "0ca557de170b840248090098192cf9bdd225b7262e9a34baa86cfe0e8780dfc7"), looks := true }, kinds := [], alts := [], laidByText := true, laidKinds := [.data, .data, .data, .sentinel, .sentinel], laidTests := true, laidLooks := .later }
def TokenRoundTripCardSaid : Prop := Claim7.holds Tryd.pinned (.plain (OpenSpec.ofChange tokenRoundTripSpec)) tokenRoundTripCard

/-- THE TIED CARD OF 'linkhouselaw1.TokenComments'. -/
def tokenCommentsCard : Claim7 := { stood := { row := tokenCommentsRow, standIns := [], harness := (true, "0ca557de170b840248090098192cf9bdd225b7262e9a34baa86cfe0e8780dfc7"), looks := true }, kinds := [], alts := [], laidByText := true, laidKinds := [.data, .data, .data, .sentinel, .sentinel], laidTests := true, laidLooks := .later }
def TokenCommentsCardSaid : Prop := Claim7.holds Tryd.pinned (.plain (OpenSpec.ofChange tokenCommentsSpec)) tokenCommentsCard

/-- THE TIED CARD OF 'linkhouselaw1.TokenParts'. -/
def tokenPartsCard : Claim7 := { stood := { row := tokenPartsRow, standIns := [], harness := (true, "0ca557de170b840248090098192cf9bdd225b7262e9a34baa86cfe0e8780dfc7"), looks := true }, kinds := [], alts := [], laidByText := true, laidKinds := [.data, .data, .data, .sentinel, .sentinel], laidTests := true, laidLooks := .later }
def TokenPartsCardSaid : Prop := Claim7.holds Tryd.pinned (.plain (OpenSpec.ofChange tokenPartsSpec)) tokenPartsCard

/-- THE TIED CARD OF 'linkhouselaw1.SourceParseMatchesSpec'. -/
def sourceParseMatchesSpecCard : Claim7 := { stood := { row := sourceParseMatchesSpecRow, standIns := [], harness := (true, "0ca557de170b840248090098192cf9bdd225b7262e9a34baa86cfe0e8780dfc7"), looks := true }, kinds := [], alts := [], laidByText := true, laidKinds := [.data, .data, .data, .sentinel, .sentinel], laidTests := true, laidLooks := .later }
def SourceParseMatchesSpecCardSaid : Prop := Claim7.holds Tryd.pinned (.plain (OpenSpec.ofChange sourceParseMatchesSpecSpec)) sourceParseMatchesSpecCard

/-- THE TIED CARD OF 'linkhouselaw1.SourcePrintMatchesSpec'. -/
def sourcePrintMatchesSpecCard : Claim7 := { stood := { row := sourcePrintMatchesSpecRow, standIns := [], harness := (true, "0ca557de170b840248090098192cf9bdd225b7262e9a34baa86cfe0e8780dfc7"), looks := true }, kinds := [], alts := [], laidByText := true, laidKinds := [.data, .data, .data, .sentinel, .sentinel], laidTests := true, laidLooks := .later }
def SourcePrintMatchesSpecCardSaid : Prop := Claim7.holds Tryd.pinned (.plain (OpenSpec.ofChange sourcePrintMatchesSpecSpec)) sourcePrintMatchesSpecCard

/-- THE TIED CARD OF 'linkhouselaw1.SourceRoundTrip'. -/
def sourceRoundTripCard : Claim7 := { stood := { row := sourceRoundTripRow, standIns := [], harness := (true, "0ca557de170b840248090098192cf9bdd225b7262e9a34baa86cfe0e8780dfc7"), looks := true }, kinds := [], alts := [], laidByText := true, laidKinds := [.data, .data, .data, .sentinel, .sentinel], laidTests := true, laidLooks := .later }
def SourceRoundTripCardSaid : Prop := Claim7.holds Tryd.pinned (.plain (OpenSpec.ofChange sourceRoundTripSpec)) sourceRoundTripCard

/-- THE TIED CARD OF 'linkhouselaw1.SourcePrintsParsed'. -/
def sourcePrintsParsedCard : Claim7 := { stood := { row := sourcePrintsParsedRow, standIns := [], harness := (true, "0ca557de170b840248090098192cf9bdd225b7262e9a34baa86cfe0e8780dfc7"), looks := true }, kinds := [], alts := [], laidByText := true, laidKinds := [.data, .data, .data, .sentinel, .sentinel], laidTests := true, laidLooks := .later }
def SourcePrintsParsedCardSaid : Prop := Claim7.holds Tryd.pinned (.plain (OpenSpec.ofChange sourcePrintsParsedSpec)) sourcePrintsParsedCard

/-- THE SECOND FORM's CARD OF 'linkhouselaw1.ExprParseMatchesSpec'. -/
def exprParseMatchesSpecUptoCard : Claim7 := { stood := { row := exprParseMatchesSpecUptoRow, standIns := [], harness := (true, "0ca557de170b840248090098192cf9bdd225b7262e9a34baa86cfe0e8780dfc7"), looks := true }, kinds := [], alts := [], laidByText := true, laidKinds := [.widerDeep], laidTests := true, laidLooks := .later }
def ExprParseMatchesSpecUptoCardSaid : Prop := Claim7.holds Tryd.pinned (.plain (OpenSpec.upto exprParseMatchesSpecSpec)) exprParseMatchesSpecUptoCard

/-- THE SECOND FORM's CARD OF 'linkhouselaw1.ExprValueMatchesSpec'. -/
def exprValueMatchesSpecUptoCard : Claim7 := { stood := { row := exprValueMatchesSpecUptoRow, standIns := [], harness := (true, "0ca557de170b840248090098192cf9bdd225b7262e9a34baa86cfe0e8780dfc7"), looks := true }, kinds := [], alts := [], laidByText := true, laidKinds := [.widerDeep], laidTests := true, laidLooks := .later }
def ExprValueMatchesSpecUptoCardSaid : Prop := Claim7.holds Tryd.pinned (.plain (OpenSpec.upto exprValueMatchesSpecSpec)) exprValueMatchesSpecUptoCard

/-- THE SECOND FORM's CARD OF 'linkhouselaw1.ExprSubstitutes'. -/
def exprSubstitutesUptoCard : Claim7 := { stood := { row := exprSubstitutesUptoRow, standIns := [], harness := (true, "0ca557de170b840248090098192cf9bdd225b7262e9a34baa86cfe0e8780dfc7"), looks := true }, kinds := [], alts := [], laidByText := true, laidKinds := [.widerDeep], laidTests := true, laidLooks := .later }
def ExprSubstitutesUptoCardSaid : Prop := Claim7.holds Tryd.pinned (.plain (OpenSpec.upto exprSubstitutesSpec)) exprSubstitutesUptoCard

/-- THE SECOND FORM's CARD OF 'linkhouselaw1.ExprSpaces'. -/
def exprSpacesUptoCard : Claim7 := { stood := { row := exprSpacesUptoRow, standIns := [], harness := (true, "0ca557de170b840248090098192cf9bdd225b7262e9a34baa86cfe0e8780dfc7"), looks := true }, kinds := [], alts := [], laidByText := true, laidKinds := [.widerDeep], laidTests := true, laidLooks := .later }
def ExprSpacesUptoCardSaid : Prop := Claim7.holds Tryd.pinned (.plain (OpenSpec.upto exprSpacesSpec)) exprSpacesUptoCard

/-- THE SECOND FORM's CARD OF 'linkhouselaw1.ExprTokensMatchesSpec'. -/
def exprTokensMatchesSpecUptoCard : Claim7 := { stood := { row := exprTokensMatchesSpecUptoRow, standIns := [], harness := (true, "0ca557de170b840248090098192cf9bdd225b7262e9a34baa86cfe0e8780dfc7"), looks := true }, kinds := [], alts := [], laidByText := true, laidKinds := [.widerDeep], laidTests := true, laidLooks := .later }
def ExprTokensMatchesSpecUptoCardSaid : Prop := Claim7.holds Tryd.pinned (.plain (OpenSpec.upto exprTokensMatchesSpecSpec)) exprTokensMatchesSpecUptoCard

/-- THE SECOND FORM's CARD OF 'linkhouselaw1.ExprRoundTrip'. -/
def exprRoundTripUptoCard : Claim7 := { stood := { row := exprRoundTripUptoRow, standIns := [], harness := (true, "0ca557de170b840248090098192cf9bdd225b7262e9a34baa86cfe0e8780dfc7"), looks := true }, kinds := [], alts := [], laidByText := true, laidKinds := [.widerDeep], laidTests := true, laidLooks := .later }
def ExprRoundTripUptoCardSaid : Prop := Claim7.holds Tryd.pinned (.plain (OpenSpec.upto exprRoundTripSpec)) exprRoundTripUptoCard

/-- THE SECOND FORM's CARD OF 'linkhouselaw1.TokenJoinMatchesSpec'. -/
def tokenJoinMatchesSpecUptoCard : Claim7 := { stood := { row := tokenJoinMatchesSpecUptoRow, standIns := [], harness := (true, "0ca557de170b840248090098192cf9bdd225b7262e9a34baa86cfe0e8780dfc7"), looks := true }, kinds := [], alts := [], laidByText := true, laidKinds := [.data, .data, .data, .sentinel, .sentinel], laidTests := true, laidLooks := .later }
def TokenJoinMatchesSpecUptoCardSaid : Prop := Claim7.holds Tryd.pinned (.plain (OpenSpec.upto tokenJoinMatchesSpecSpec)) tokenJoinMatchesSpecUptoCard

/-- THE SECOND FORM's CARD OF 'linkhouselaw1.TokenRoundTrip'. -/
def tokenRoundTripUptoCard : Claim7 := { stood := { row := tokenRoundTripUptoRow, standIns := [], harness := (true, "0ca557de170b840248090098192cf9bdd225b7262e9a34baa86cfe0e8780dfc7"), looks := true }, kinds := [], alts := [], laidByText := true, laidKinds := [.data, .data, .data, .sentinel, .sentinel], laidTests := true, laidLooks := .later }
def TokenRoundTripUptoCardSaid : Prop := Claim7.holds Tryd.pinned (.plain (OpenSpec.upto tokenRoundTripSpec)) tokenRoundTripUptoCard

/-- THE SECOND FORM's CARD OF 'linkhouselaw1.TokenComments'. -/
def tokenCommentsUptoCard : Claim7 := { stood := { row := tokenCommentsUptoRow, standIns := [], harness := (true, "0ca557de170b840248090098192cf9bdd225b7262e9a34baa86cfe0e8780dfc7"), looks := true }, kinds := [], alts := [], laidByText := true, laidKinds := [.data, .data, .data, .sentinel, .sentinel], laidTests := true, laidLooks := .later }
def TokenCommentsUptoCardSaid : Prop := Claim7.holds Tryd.pinned (.plain (OpenSpec.upto tokenCommentsSpec)) tokenCommentsUptoCard

/-- THE SECOND FORM's CARD OF 'linkhouselaw1.TokenParts'. -/
def tokenPartsUptoCard : Claim7 := { stood := { row := tokenPartsUptoRow, standIns := [], harness := (true, "0ca557de170b840248090098192cf9bdd225b7262e9a34baa86cfe0e8780dfc7"), looks := true }, kinds := [], alts := [], laidByText := true, laidKinds := [.data, .data, .data, .sentinel, .sentinel], laidTests := true, laidLooks := .later }
def TokenPartsUptoCardSaid : Prop := Claim7.holds Tryd.pinned (.plain (OpenSpec.upto tokenPartsSpec)) tokenPartsUptoCard

/-- THE SECOND FORM's CARD OF 'linkhouselaw1.SourceParseMatchesSpec'. -/
def sourceParseMatchesSpecUptoCard : Claim7 := { stood := { row := sourceParseMatchesSpecUptoRow, standIns := [], harness := (true, "0ca557de170b840248090098192cf9bdd225b7262e9a34baa86cfe0e8780dfc7"), looks := true }, kinds := [], alts := [], laidByText := true, laidKinds := [.data, .data, .data, .sentinel, .sentinel], laidTests := true, laidLooks := .later }
def SourceParseMatchesSpecUptoCardSaid : Prop := Claim7.holds Tryd.pinned (.plain (OpenSpec.upto sourceParseMatchesSpecSpec)) sourceParseMatchesSpecUptoCard

/-- THE SECOND FORM's CARD OF 'linkhouselaw1.SourcePrintMatchesSpec'. -/
def sourcePrintMatchesSpecUptoCard : Claim7 := { stood := { row := sourcePrintMatchesSpecUptoRow, standIns := [], harness := (true, "0ca557de170b840248090098192cf9bdd225b7262e9a34baa86cfe0e8780dfc7"), looks := true }, kinds := [], alts := [], laidByText := true, laidKinds := [.data, .data, .data, .sentinel, .sentinel], laidTests := true, laidLooks := .later }
def SourcePrintMatchesSpecUptoCardSaid : Prop := Claim7.holds Tryd.pinned (.plain (OpenSpec.upto sourcePrintMatchesSpecSpec)) sourcePrintMatchesSpecUptoCard

/-- THE SECOND FORM's CARD OF 'linkhouselaw1.SourceRoundTrip'. -/
def sourceRoundTripUptoCard : Claim7 := { stood := { row := sourceRoundTripUptoRow, standIns := [], harness := (true, "0ca557de170b840248090098192cf9bdd225b7262e9a34baa86cfe0e8780dfc7"), looks := true }, kinds := [], alts := [], laidByText := true, laidKinds := [.data, .data, .data, .sentinel, .sentinel], laidTests := true, laidLooks := .later }
def SourceRoundTripUptoCardSaid : Prop := Claim7.holds Tryd.pinned (.plain (OpenSpec.upto sourceRoundTripSpec)) sourceRoundTripUptoCard

/-- THE SECOND FORM's CARD OF 'linkhouselaw1.SourcePrintsParsed'. -/
def sourcePrintsParsedUptoCard : Claim7 := { stood := { row := sourcePrintsParsedUptoRow, standIns := [], harness := (true, "0ca557de170b840248090098192cf9bdd225b7262e9a34baa86cfe0e8780dfc7"), looks := true }, kinds := [], alts := [], laidByText := true, laidKinds := [.data, .data, .data, .sentinel, .sentinel], laidTests := true, laidLooks := .later }
def SourcePrintsParsedUptoCardSaid : Prop := Claim7.holds Tryd.pinned (.plain (OpenSpec.upto sourcePrintsParsedSpec)) sourcePrintsParsedUptoCard
end Rows
end Go.Proofs.YtkgdkommahgakaaDoor
