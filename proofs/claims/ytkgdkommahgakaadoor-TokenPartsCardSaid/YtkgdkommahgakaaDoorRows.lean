/-
  NARROWER THAN 'FOR EVERY INPUT', by the rows' own cells (each row's printed sentence says how): ExprParseMatchesSpec: laid · ExprValueMatchesSpec: laid · ExprSubstitutes: laid · ExprSpaces: laid · ExprTokensMatchesSpec: laid · ExprRoundTrip: laid · TokenJoinMatchesSpec: laid · TokenRoundTrip: laid · TokenComments: laid · TokenParts: laid · SourceParseMatchesSpec: laid · SourcePrintMatchesSpec: laid · SourceRoundTrip: laid · SourcePrintsParsed: laid.
  DERIVED. THE GIVEN ROWS OF THIS SEAT. 14 by the template 'for every input the law returns true; each argument reads behind the call as it read before'; 0 by the template 'total and deterministic' (their statements: YtkgdkommahgakaaDoorTotals.lean).
  GIVEN WITH THE SEED: the statements are not yours to turn. If you find one false, say at which input.
  Laid BY PROGRAM, IN A SANDBOX (cutbox-rows.mjs): the forced cells as the released guide's own fill.sh prints them over the translation 4e55d4dca2d566d3… (all of the seat's roots in one cut). By AI agents, Wed Nov 11 2026. No macro, syntax, notation, axiom, sorry.
-/
import Derived.Test.YtkgdkommahgakaaDoorChecked
import GoSem.Claim
import GoSem.ClaimJoined
import GoSem.ClaimMapViews
import Derived.JoinedTies
import Derived.KernelRfl
namespace Go.Proofs.YtkgdkommahgakaaDoor
/- THE CELL 'sum', in the pinned program and in every row, IS THE sha256 OF THE DUMP (.gsa) THAT YtkgdkommahgakaaDoorProg.lean LOADS. Nothing in Lean hashes anything: it is a label: what it is worth is what the hold of that sum in a sandbox is worth. -/
noncomputable def Tryd.pinned : Pinned := { name := "ytkgdkommahgakaadoor", sum := "4e55d4dca2d566d3af043bd62c15b5385531169388841d2b9e962d38afdb3638", checked := Tryd.checked }
namespace Rows
def none {H : Type} : Left H := { results := [], args := [] }

/- WHAT THE LISTED PACKAGE-LEVEL VARIABLES READ AS WHEN THE CALL BEGINS. Each datum BY PROGRAM (the guide's laid-datum.mjs) off the statement by which the dump's own 'gosem.cut.vars' lays the variable. In a bare row this is a premise. The card (YtkgdkommahgakaaDoorCards.lean) ties it to the program's text. -/
def laid_linkhouse_expr_levels {H : Type} : DataW H := .agg [.slice [.lit (.string [124])] [], .slice [.lit (.string [94])] [], .slice [.lit (.string [38])] [], .slice [.lit (.string [60, 60]), .lit (.string [62, 62])] [], .slice [.lit (.string [43]), .lit (.string [45])] [], .slice [.lit (.string [42]), .lit (.string [47]), .lit (.string [37])] []]
def laid_math_bits_deBruijn32tab {H : Type} : DataW H := .agg [.lit (.int .u8 0), .lit (.int .u8 1), .lit (.int .u8 28), .lit (.int .u8 2), .lit (.int .u8 29), .lit (.int .u8 14), .lit (.int .u8 24), .lit (.int .u8 3), .lit (.int .u8 30), .lit (.int .u8 22), .lit (.int .u8 20), .lit (.int .u8 15), .lit (.int .u8 25), .lit (.int .u8 17), .lit (.int .u8 4), .lit (.int .u8 8), .lit (.int .u8 31), .lit (.int .u8 27), .lit (.int .u8 13), .lit (.int .u8 23), .lit (.int .u8 21), .lit (.int .u8 19), .lit (.int .u8 16), .lit (.int .u8 7), .lit (.int .u8 26), .lit (.int .u8 12), .lit (.int .u8 18), .lit (.int .u8 6), .lit (.int .u8 11), .lit (.int .u8 5), .lit (.int .u8 10), .lit (.int .u8 9)]
def laid_math_bits_deBruijn64tab {H : Type} : DataW H := .agg [.lit (.int .u8 0), .lit (.int .u8 1), .lit (.int .u8 56), .lit (.int .u8 2), .lit (.int .u8 57), .lit (.int .u8 49), .lit (.int .u8 28), .lit (.int .u8 3), .lit (.int .u8 61), .lit (.int .u8 58), .lit (.int .u8 42), .lit (.int .u8 50), .lit (.int .u8 38), .lit (.int .u8 29), .lit (.int .u8 17), .lit (.int .u8 4), .lit (.int .u8 62), .lit (.int .u8 47), .lit (.int .u8 59), .lit (.int .u8 36), .lit (.int .u8 45), .lit (.int .u8 43), .lit (.int .u8 51), .lit (.int .u8 22), .lit (.int .u8 53), .lit (.int .u8 39), .lit (.int .u8 33), .lit (.int .u8 30), .lit (.int .u8 24), .lit (.int .u8 18), .lit (.int .u8 12), .lit (.int .u8 5), .lit (.int .u8 63), .lit (.int .u8 55), .lit (.int .u8 48), .lit (.int .u8 27), .lit (.int .u8 60), .lit (.int .u8 41), .lit (.int .u8 37), .lit (.int .u8 16), .lit (.int .u8 46), .lit (.int .u8 35), .lit (.int .u8 44), .lit (.int .u8 21), .lit (.int .u8 52), .lit (.int .u8 32), .lit (.int .u8 23), .lit (.int .u8 11), .lit (.int .u8 54), .lit (.int .u8 26), .lit (.int .u8 40), .lit (.int .u8 15), .lit (.int .u8 34), .lit (.int .u8 20), .lit (.int .u8 31), .lit (.int .u8 10), .lit (.int .u8 25), .lit (.int .u8 14), .lit (.int .u8 19), .lit (.int .u8 9), .lit (.int .u8 13), .lit (.int .u8 8), .lit (.int .u8 7), .lit (.int .u8 6)]
def laid_internal_strconv_uint64pow10 {H : Type} : DataW H := .agg [.lit (.int .u64 1), .lit (.int .u64 10), .lit (.int .u64 100), .lit (.int .u64 1000), .lit (.int .u64 10000), .lit (.int .u64 100000), .lit (.int .u64 1000000), .lit (.int .u64 10000000), .lit (.int .u64 100000000), .lit (.int .u64 1000000000), .lit (.int .u64 10000000000), .lit (.int .u64 100000000000), .lit (.int .u64 1000000000000), .lit (.int .u64 10000000000000), .lit (.int .u64 100000000000000), .lit (.int .u64 1000000000000000), .lit (.int .u64 10000000000000000), .lit (.int .u64 100000000000000000), .lit (.int .u64 1000000000000000000), .lit (.int .u64 10000000000000000000)]
def laid_strconv_ErrRange {H : Type} : DataW H := .iface "*errors.errorString" (.ptr (.agg [.lit (.string [118, 97, 108, 117, 101, 32, 111, 117, 116, 32, 111, 102, 32, 114, 97, 110, 103, 101])]))
def laid_strconv_ErrSyntax {H : Type} : DataW H := .iface "*errors.errorString" (.ptr (.agg [.lit (.string [105, 110, 118, 97, 108, 105, 100, 32, 115, 121, 110, 116, 97, 120])]))

/-- 'linkhouselaw1.ExprParseMatchesSpec': WHATEVER THE INPUT: true; the input reads as it did. -/
def exprParseMatchesSpecSpec : ChangeSpec := { name := "exprParseMatchesSpec", fn := fun _ => fun
  | [d] => { results := [.lit (.bool true)], args := [d] }
  | _ => none }
def exprParseMatchesSpecRow : OpenClaim := { program := "ytkgdkommahgakaadoor", sum := "4e55d4dca2d566d3af043bd62c15b5385531169388841d2b9e962d38afdb3638", func := "linkhouse/linkhouselaw1.ExprParseMatchesSpec", spec := "exprParseMatchesSpec", inPlace := ["internal/bytealg.IndexByteString"], unfollowed := true, recurses := true, named := ["linkhouse/expr.levels"], apart := false, laid := [("linkhouse/expr.levels", laid_linkhouse_expr_levels)] }
def ExprParseMatchesSpecSaid : Prop := exprParseMatchesSpecRow.holds Tryd.pinned (OpenSpec.ofChange exprParseMatchesSpecSpec)

/-- ITS FALSE NEIGHBOUR: 'it returns false'. Refute it at one input. -/
def exprParseMatchesSpecWrong : ChangeSpec := { name := "exprParseMatchesSpec", fn := fun _ => fun
  | [d] => { results := [.lit (.bool false)], args := [d] }
  | _ => none }
def ExprParseMatchesSpecWrongFalsely : Prop := exprParseMatchesSpecRow.holds Tryd.pinned (OpenSpec.ofChange exprParseMatchesSpecWrong)

/-- 'linkhouselaw1.ExprValueMatchesSpec': WHATEVER THE INPUT: true; the input reads as it did. -/
def exprValueMatchesSpecSpec : ChangeSpec := { name := "exprValueMatchesSpec", fn := fun _ => fun
  | [d1, d2] => { results := [.lit (.bool true)], args := [d1, d2] }
  | _ => none }
def exprValueMatchesSpecRow : OpenClaim := { program := "ytkgdkommahgakaadoor", sum := "4e55d4dca2d566d3af043bd62c15b5385531169388841d2b9e962d38afdb3638", func := "linkhouse/linkhouselaw1.ExprValueMatchesSpec", spec := "exprValueMatchesSpec", inPlace := ["internal/bytealg.IndexByteString"], unfollowed := true, recurses := true, named := ["linkhouse/expr.levels"], apart := false, laid := [("linkhouse/expr.levels", laid_linkhouse_expr_levels)] }
def ExprValueMatchesSpecSaid : Prop := exprValueMatchesSpecRow.holds Tryd.pinned (OpenSpec.ofChange exprValueMatchesSpecSpec)

/-- ITS FALSE NEIGHBOUR: 'it returns false'. Refute it at one input. -/
def exprValueMatchesSpecWrong : ChangeSpec := { name := "exprValueMatchesSpec", fn := fun _ => fun
  | [d1, d2] => { results := [.lit (.bool false)], args := [d1, d2] }
  | _ => none }
def ExprValueMatchesSpecWrongFalsely : Prop := exprValueMatchesSpecRow.holds Tryd.pinned (OpenSpec.ofChange exprValueMatchesSpecWrong)

/-- 'linkhouselaw1.ExprSubstitutes': WHATEVER THE INPUT: true; the input reads as it did. -/
def exprSubstitutesSpec : ChangeSpec := { name := "exprSubstitutes", fn := fun _ => fun
  | [d1, d2, d3] => { results := [.lit (.bool true)], args := [d1, d2, d3] }
  | _ => none }
def exprSubstitutesRow : OpenClaim := { program := "ytkgdkommahgakaadoor", sum := "4e55d4dca2d566d3af043bd62c15b5385531169388841d2b9e962d38afdb3638", func := "linkhouse/linkhouselaw1.ExprSubstitutes", spec := "exprSubstitutes", inPlace := ["internal/bytealg.IndexByteString"], unfollowed := true, recurses := true, named := ["linkhouse/expr.levels"], apart := false, laid := [("linkhouse/expr.levels", laid_linkhouse_expr_levels)] }
def ExprSubstitutesSaid : Prop := exprSubstitutesRow.holds Tryd.pinned (OpenSpec.ofChange exprSubstitutesSpec)

/-- ITS FALSE NEIGHBOUR: 'it returns false'. Refute it at one input. -/
def exprSubstitutesWrong : ChangeSpec := { name := "exprSubstitutes", fn := fun _ => fun
  | [d1, d2, d3] => { results := [.lit (.bool false)], args := [d1, d2, d3] }
  | _ => none }
def ExprSubstitutesWrongFalsely : Prop := exprSubstitutesRow.holds Tryd.pinned (OpenSpec.ofChange exprSubstitutesWrong)

/-- 'linkhouselaw1.ExprSpaces': WHATEVER THE INPUT: true; the input reads as it did. -/
def exprSpacesSpec : ChangeSpec := { name := "exprSpaces", fn := fun _ => fun
  | [d] => { results := [.lit (.bool true)], args := [d] }
  | _ => none }
def exprSpacesRow : OpenClaim := { program := "ytkgdkommahgakaadoor", sum := "4e55d4dca2d566d3af043bd62c15b5385531169388841d2b9e962d38afdb3638", func := "linkhouse/linkhouselaw1.ExprSpaces", spec := "exprSpaces", inPlace := ["internal/bytealg.IndexByteString"], unfollowed := true, recurses := true, named := ["linkhouse/expr.levels"], apart := false, laid := [("linkhouse/expr.levels", laid_linkhouse_expr_levels)] }
def ExprSpacesSaid : Prop := exprSpacesRow.holds Tryd.pinned (OpenSpec.ofChange exprSpacesSpec)

/-- ITS FALSE NEIGHBOUR: 'it returns false'. Refute it at one input. -/
def exprSpacesWrong : ChangeSpec := { name := "exprSpaces", fn := fun _ => fun
  | [d] => { results := [.lit (.bool false)], args := [d] }
  | _ => none }
def ExprSpacesWrongFalsely : Prop := exprSpacesRow.holds Tryd.pinned (OpenSpec.ofChange exprSpacesWrong)

/-- 'linkhouselaw1.ExprTokensMatchesSpec': WHATEVER THE INPUT: true; the input reads as it did. -/
def exprTokensMatchesSpecSpec : ChangeSpec := { name := "exprTokensMatchesSpec", fn := fun _ => fun
  | [d] => { results := [.lit (.bool true)], args := [d] }
  | _ => none }
def exprTokensMatchesSpecRow : OpenClaim := { program := "ytkgdkommahgakaadoor", sum := "4e55d4dca2d566d3af043bd62c15b5385531169388841d2b9e962d38afdb3638", func := "linkhouse/linkhouselaw1.ExprTokensMatchesSpec", spec := "exprTokensMatchesSpec", inPlace := ["internal/bytealg.IndexByteString"], unfollowed := true, recurses := true, named := ["linkhouse/expr.levels"], apart := false, laid := [("linkhouse/expr.levels", laid_linkhouse_expr_levels)] }
def ExprTokensMatchesSpecSaid : Prop := exprTokensMatchesSpecRow.holds Tryd.pinned (OpenSpec.ofChange exprTokensMatchesSpecSpec)

/-- ITS FALSE NEIGHBOUR: 'it returns false'. Refute it at one input. -/
def exprTokensMatchesSpecWrong : ChangeSpec := { name := "exprTokensMatchesSpec", fn := fun _ => fun
  | [d] => { results := [.lit (.bool false)], args := [d] }
  | _ => none }
def ExprTokensMatchesSpecWrongFalsely : Prop := exprTokensMatchesSpecRow.holds Tryd.pinned (OpenSpec.ofChange exprTokensMatchesSpecWrong)

/-- 'linkhouselaw1.ExprRoundTrip': WHATEVER THE INPUT: true; the input reads as it did. -/
def exprRoundTripSpec : ChangeSpec := { name := "exprRoundTrip", fn := fun _ => fun
  | [d1, d2] => { results := [.lit (.bool true)], args := [d1, d2] }
  | _ => none }
def exprRoundTripRow : OpenClaim := { program := "ytkgdkommahgakaadoor", sum := "4e55d4dca2d566d3af043bd62c15b5385531169388841d2b9e962d38afdb3638", func := "linkhouse/linkhouselaw1.ExprRoundTrip", spec := "exprRoundTrip", inPlace := ["internal/bytealg.IndexByteString"], unfollowed := true, recurses := true, named := ["linkhouse/expr.levels"], apart := false, laid := [("linkhouse/expr.levels", laid_linkhouse_expr_levels)] }
def ExprRoundTripSaid : Prop := exprRoundTripRow.holds Tryd.pinned (OpenSpec.ofChange exprRoundTripSpec)

/-- ITS FALSE NEIGHBOUR: 'it returns false'. Refute it at one input. -/
def exprRoundTripWrong : ChangeSpec := { name := "exprRoundTrip", fn := fun _ => fun
  | [d1, d2] => { results := [.lit (.bool false)], args := [d1, d2] }
  | _ => none }
def ExprRoundTripWrongFalsely : Prop := exprRoundTripRow.holds Tryd.pinned (OpenSpec.ofChange exprRoundTripWrong)

/-- 'linkhouselaw1.TokenJoinMatchesSpec': WHATEVER THE INPUT: true; the input reads as it did. -/
def tokenJoinMatchesSpecSpec : ChangeSpec := { name := "tokenJoinMatchesSpec", fn := fun _ => fun
  | [d] => { results := [.lit (.bool true)], args := [d] }
  | _ => none }
def tokenJoinMatchesSpecRow : OpenClaim := { program := "ytkgdkommahgakaadoor", sum := "4e55d4dca2d566d3af043bd62c15b5385531169388841d2b9e962d38afdb3638", func := "linkhouse/linkhouselaw1.TokenJoinMatchesSpec", spec := "tokenJoinMatchesSpec", inPlace := ["internal/bytealg.IndexByteString", "internal/abi.NoEscape", "internal/bytealg.MakeNoZero"], recurses := true, named := ["strconv.ErrSyntax", "strconv.ErrRange", "internal/strconv.uint64pow10", "math/bits.deBruijn32tab", "math/bits.deBruijn64tab"], apart := false, laid := [("math/bits.deBruijn32tab", laid_math_bits_deBruijn32tab), ("math/bits.deBruijn64tab", laid_math_bits_deBruijn64tab), ("internal/strconv.uint64pow10", laid_internal_strconv_uint64pow10), ("strconv.ErrRange", laid_strconv_ErrRange), ("strconv.ErrSyntax", laid_strconv_ErrSyntax)] }
def TokenJoinMatchesSpecSaid : Prop := tokenJoinMatchesSpecRow.holds Tryd.pinned (OpenSpec.ofChange tokenJoinMatchesSpecSpec)

/-- ITS FALSE NEIGHBOUR: 'it returns false'. Refute it at one input. -/
def tokenJoinMatchesSpecWrong : ChangeSpec := { name := "tokenJoinMatchesSpec", fn := fun _ => fun
  | [d] => { results := [.lit (.bool false)], args := [d] }
  | _ => none }
def TokenJoinMatchesSpecWrongFalsely : Prop := tokenJoinMatchesSpecRow.holds Tryd.pinned (OpenSpec.ofChange tokenJoinMatchesSpecWrong)

/-- 'linkhouselaw1.TokenRoundTrip': WHATEVER THE INPUT: true; the input reads as it did. -/
def tokenRoundTripSpec : ChangeSpec := { name := "tokenRoundTrip", fn := fun _ => fun
  | [d] => { results := [.lit (.bool true)], args := [d] }
  | _ => none }
def tokenRoundTripRow : OpenClaim := { program := "ytkgdkommahgakaadoor", sum := "4e55d4dca2d566d3af043bd62c15b5385531169388841d2b9e962d38afdb3638", func := "linkhouse/linkhouselaw1.TokenRoundTrip", spec := "tokenRoundTrip", inPlace := ["internal/bytealg.IndexByteString", "internal/abi.NoEscape", "internal/bytealg.MakeNoZero"], named := ["strconv.ErrSyntax", "strconv.ErrRange", "internal/strconv.uint64pow10", "math/bits.deBruijn32tab", "math/bits.deBruijn64tab"], apart := false, laid := [("math/bits.deBruijn32tab", laid_math_bits_deBruijn32tab), ("math/bits.deBruijn64tab", laid_math_bits_deBruijn64tab), ("internal/strconv.uint64pow10", laid_internal_strconv_uint64pow10), ("strconv.ErrRange", laid_strconv_ErrRange), ("strconv.ErrSyntax", laid_strconv_ErrSyntax)] }
def TokenRoundTripSaid : Prop := tokenRoundTripRow.holds Tryd.pinned (OpenSpec.ofChange tokenRoundTripSpec)

/-- ITS FALSE NEIGHBOUR: 'it returns false'. Refute it at one input. -/
def tokenRoundTripWrong : ChangeSpec := { name := "tokenRoundTrip", fn := fun _ => fun
  | [d] => { results := [.lit (.bool false)], args := [d] }
  | _ => none }
def TokenRoundTripWrongFalsely : Prop := tokenRoundTripRow.holds Tryd.pinned (OpenSpec.ofChange tokenRoundTripWrong)

/-- 'linkhouselaw1.TokenComments': WHATEVER THE INPUT: true; the input reads as it did. -/
def tokenCommentsSpec : ChangeSpec := { name := "tokenComments", fn := fun _ => fun
  | [d1, d2] => { results := [.lit (.bool true)], args := [d1, d2] }
  | _ => none }
def tokenCommentsRow : OpenClaim := { program := "ytkgdkommahgakaadoor", sum := "4e55d4dca2d566d3af043bd62c15b5385531169388841d2b9e962d38afdb3638", func := "linkhouse/linkhouselaw1.TokenComments", spec := "tokenComments", inPlace := ["internal/bytealg.IndexByteString", "internal/abi.NoEscape", "internal/bytealg.MakeNoZero"], named := ["strconv.ErrSyntax", "strconv.ErrRange", "internal/strconv.uint64pow10", "math/bits.deBruijn32tab", "math/bits.deBruijn64tab"], apart := false, laid := [("math/bits.deBruijn32tab", laid_math_bits_deBruijn32tab), ("math/bits.deBruijn64tab", laid_math_bits_deBruijn64tab), ("internal/strconv.uint64pow10", laid_internal_strconv_uint64pow10), ("strconv.ErrRange", laid_strconv_ErrRange), ("strconv.ErrSyntax", laid_strconv_ErrSyntax)] }
def TokenCommentsSaid : Prop := tokenCommentsRow.holds Tryd.pinned (OpenSpec.ofChange tokenCommentsSpec)

/-- ITS FALSE NEIGHBOUR: 'it returns false'. Refute it at one input. -/
def tokenCommentsWrong : ChangeSpec := { name := "tokenComments", fn := fun _ => fun
  | [d1, d2] => { results := [.lit (.bool false)], args := [d1, d2] }
  | _ => none }
def TokenCommentsWrongFalsely : Prop := tokenCommentsRow.holds Tryd.pinned (OpenSpec.ofChange tokenCommentsWrong)

/-- 'linkhouselaw1.TokenParts': WHATEVER THE INPUT: true; the input reads as it did. -/
def tokenPartsSpec : ChangeSpec := { name := "tokenParts", fn := fun _ => fun
  | [d1, d2] => { results := [.lit (.bool true)], args := [d1, d2] }
  | _ => none }
def tokenPartsRow : OpenClaim := { program := "ytkgdkommahgakaadoor", sum := "4e55d4dca2d566d3af043bd62c15b5385531169388841d2b9e962d38afdb3638", func := "linkhouse/linkhouselaw1.TokenParts", spec := "tokenParts", inPlace := ["internal/bytealg.IndexByteString", "internal/abi.NoEscape", "internal/bytealg.MakeNoZero"], named := ["strconv.ErrSyntax", "strconv.ErrRange", "internal/strconv.uint64pow10", "math/bits.deBruijn32tab", "math/bits.deBruijn64tab"], apart := false, laid := [("math/bits.deBruijn32tab", laid_math_bits_deBruijn32tab), ("math/bits.deBruijn64tab", laid_math_bits_deBruijn64tab), ("internal/strconv.uint64pow10", laid_internal_strconv_uint64pow10), ("strconv.ErrRange", laid_strconv_ErrRange), ("strconv.ErrSyntax", laid_strconv_ErrSyntax)] }
def TokenPartsSaid : Prop := tokenPartsRow.holds Tryd.pinned (OpenSpec.ofChange tokenPartsSpec)

/-- ITS FALSE NEIGHBOUR: 'it returns false'. Refute it at one input. -/
def tokenPartsWrong : ChangeSpec := { name := "tokenParts", fn := fun _ => fun
  | [d1, d2] => { results := [.lit (.bool false)], args := [d1, d2] }
  | _ => none }
def TokenPartsWrongFalsely : Prop := tokenPartsRow.holds Tryd.pinned (OpenSpec.ofChange tokenPartsWrong)

/-- 'linkhouselaw1.SourceParseMatchesSpec': WHATEVER THE INPUT: true; the input reads as it did. -/
def sourceParseMatchesSpecSpec : ChangeSpec := { name := "sourceParseMatchesSpec", fn := fun _ => fun
  | [d] => { results := [.lit (.bool true)], args := [d] }
  | _ => none }
def sourceParseMatchesSpecRow : OpenClaim := { program := "ytkgdkommahgakaadoor", sum := "4e55d4dca2d566d3af043bd62c15b5385531169388841d2b9e962d38afdb3638", func := "linkhouse/linkhouselaw1.SourceParseMatchesSpec", spec := "sourceParseMatchesSpec", inPlace := ["internal/bytealg.IndexByteString", "internal/abi.NoEscape", "internal/bytealg.MakeNoZero"], named := ["strconv.ErrSyntax", "strconv.ErrRange", "internal/strconv.uint64pow10", "math/bits.deBruijn32tab", "math/bits.deBruijn64tab"], apart := false, laid := [("math/bits.deBruijn32tab", laid_math_bits_deBruijn32tab), ("math/bits.deBruijn64tab", laid_math_bits_deBruijn64tab), ("internal/strconv.uint64pow10", laid_internal_strconv_uint64pow10), ("strconv.ErrRange", laid_strconv_ErrRange), ("strconv.ErrSyntax", laid_strconv_ErrSyntax)] }
def SourceParseMatchesSpecSaid : Prop := sourceParseMatchesSpecRow.holds Tryd.pinned (OpenSpec.ofChange sourceParseMatchesSpecSpec)

/-- ITS FALSE NEIGHBOUR: 'it returns false'. Refute it at one input. -/
def sourceParseMatchesSpecWrong : ChangeSpec := { name := "sourceParseMatchesSpec", fn := fun _ => fun
  | [d] => { results := [.lit (.bool false)], args := [d] }
  | _ => none }
def SourceParseMatchesSpecWrongFalsely : Prop := sourceParseMatchesSpecRow.holds Tryd.pinned (OpenSpec.ofChange sourceParseMatchesSpecWrong)

/-- 'linkhouselaw1.SourcePrintMatchesSpec': WHATEVER THE INPUT: true; the input reads as it did. -/
def sourcePrintMatchesSpecSpec : ChangeSpec := { name := "sourcePrintMatchesSpec", fn := fun _ => fun
  | [d] => { results := [.lit (.bool true)], args := [d] }
  | _ => none }
def sourcePrintMatchesSpecRow : OpenClaim := { program := "ytkgdkommahgakaadoor", sum := "4e55d4dca2d566d3af043bd62c15b5385531169388841d2b9e962d38afdb3638", func := "linkhouse/linkhouselaw1.SourcePrintMatchesSpec", spec := "sourcePrintMatchesSpec", inPlace := ["internal/bytealg.IndexByteString", "internal/abi.NoEscape", "internal/bytealg.MakeNoZero"], recurses := true, named := ["strconv.ErrSyntax", "strconv.ErrRange", "internal/strconv.uint64pow10", "math/bits.deBruijn32tab", "math/bits.deBruijn64tab"], apart := false, laid := [("math/bits.deBruijn32tab", laid_math_bits_deBruijn32tab), ("math/bits.deBruijn64tab", laid_math_bits_deBruijn64tab), ("internal/strconv.uint64pow10", laid_internal_strconv_uint64pow10), ("strconv.ErrRange", laid_strconv_ErrRange), ("strconv.ErrSyntax", laid_strconv_ErrSyntax)] }
def SourcePrintMatchesSpecSaid : Prop := sourcePrintMatchesSpecRow.holds Tryd.pinned (OpenSpec.ofChange sourcePrintMatchesSpecSpec)

/-- ITS FALSE NEIGHBOUR: 'it returns false'. Refute it at one input. -/
def sourcePrintMatchesSpecWrong : ChangeSpec := { name := "sourcePrintMatchesSpec", fn := fun _ => fun
  | [d] => { results := [.lit (.bool false)], args := [d] }
  | _ => none }
def SourcePrintMatchesSpecWrongFalsely : Prop := sourcePrintMatchesSpecRow.holds Tryd.pinned (OpenSpec.ofChange sourcePrintMatchesSpecWrong)

/-- 'linkhouselaw1.SourceRoundTrip': WHATEVER THE INPUT: true; the input reads as it did. -/
def sourceRoundTripSpec : ChangeSpec := { name := "sourceRoundTrip", fn := fun _ => fun
  | [d] => { results := [.lit (.bool true)], args := [d] }
  | _ => none }
def sourceRoundTripRow : OpenClaim := { program := "ytkgdkommahgakaadoor", sum := "4e55d4dca2d566d3af043bd62c15b5385531169388841d2b9e962d38afdb3638", func := "linkhouse/linkhouselaw1.SourceRoundTrip", spec := "sourceRoundTrip", inPlace := ["internal/bytealg.IndexByteString", "internal/abi.NoEscape", "internal/bytealg.MakeNoZero"], named := ["strconv.ErrSyntax", "strconv.ErrRange", "internal/strconv.uint64pow10", "math/bits.deBruijn32tab", "math/bits.deBruijn64tab"], apart := false, laid := [("math/bits.deBruijn32tab", laid_math_bits_deBruijn32tab), ("math/bits.deBruijn64tab", laid_math_bits_deBruijn64tab), ("internal/strconv.uint64pow10", laid_internal_strconv_uint64pow10), ("strconv.ErrRange", laid_strconv_ErrRange), ("strconv.ErrSyntax", laid_strconv_ErrSyntax)] }
def SourceRoundTripSaid : Prop := sourceRoundTripRow.holds Tryd.pinned (OpenSpec.ofChange sourceRoundTripSpec)

/-- ITS FALSE NEIGHBOUR: 'it returns false'. Refute it at one input. -/
def sourceRoundTripWrong : ChangeSpec := { name := "sourceRoundTrip", fn := fun _ => fun
  | [d] => { results := [.lit (.bool false)], args := [d] }
  | _ => none }
def SourceRoundTripWrongFalsely : Prop := sourceRoundTripRow.holds Tryd.pinned (OpenSpec.ofChange sourceRoundTripWrong)

/-- 'linkhouselaw1.SourcePrintsParsed': WHATEVER THE INPUT: true; the input reads as it did. -/
def sourcePrintsParsedSpec : ChangeSpec := { name := "sourcePrintsParsed", fn := fun _ => fun
  | [d] => { results := [.lit (.bool true)], args := [d] }
  | _ => none }
def sourcePrintsParsedRow : OpenClaim := { program := "ytkgdkommahgakaadoor", sum := "4e55d4dca2d566d3af043bd62c15b5385531169388841d2b9e962d38afdb3638", func := "linkhouse/linkhouselaw1.SourcePrintsParsed", spec := "sourcePrintsParsed", inPlace := ["internal/bytealg.IndexByteString", "internal/abi.NoEscape", "internal/bytealg.MakeNoZero"], named := ["strconv.ErrSyntax", "strconv.ErrRange", "internal/strconv.uint64pow10", "math/bits.deBruijn32tab", "math/bits.deBruijn64tab"], apart := false, laid := [("math/bits.deBruijn32tab", laid_math_bits_deBruijn32tab), ("math/bits.deBruijn64tab", laid_math_bits_deBruijn64tab), ("internal/strconv.uint64pow10", laid_internal_strconv_uint64pow10), ("strconv.ErrRange", laid_strconv_ErrRange), ("strconv.ErrSyntax", laid_strconv_ErrSyntax)] }
def SourcePrintsParsedSaid : Prop := sourcePrintsParsedRow.holds Tryd.pinned (OpenSpec.ofChange sourcePrintsParsedSpec)

/-- ITS FALSE NEIGHBOUR: 'it returns false'. Refute it at one input. -/
def sourcePrintsParsedWrong : ChangeSpec := { name := "sourcePrintsParsed", fn := fun _ => fun
  | [d] => { results := [.lit (.bool false)], args := [d] }
  | _ => none }
def SourcePrintsParsedWrongFalsely : Prop := sourcePrintsParsedRow.holds Tryd.pinned (OpenSpec.ofChange sourcePrintsParsedWrong)

/- THE SECOND FORM. 'bulk': how many values and letters a reading holds, each counted each time it is reached (what is shared counts as often as it is met; a slice's spare places count too). A statement '..UptoSaid' is the law's where the arguments, and the package variables that the reading takes, are together of bulk at most 1048576: NARROWER than '..Said'. Prove '..Said' where nothing that the law and all that it calls make is longer than what came in: it says more and counts as full. Else prove '..UptoSaid'. A law counts once. -/
mutual
def uptoBulk {H : Type} : DataW H → Nat
  | .lit (.string bytes) => bytes.length + 1
  | .lit _ => 1
  | .nil => 1
  | .ptr d => uptoBulk d + 1
  | .slice elems spare => uptoBulkAll elems + uptoBulkAll spare + 1
  | .agg parts => uptoBulkAll parts + 1
  | .iface _ d => uptoBulk d + 1
  | .map entries => uptoBulkEntries entries + 1
  | .held _ => 1
def uptoBulkAll {H : Type} : List (DataW H) → Nat
  | [] => 0
  | d :: r => uptoBulk d + uptoBulkAll r
def uptoBulkEntries {H : Type} : List (Lit × DataW H) → Nat
  | [] => 0
  | x :: r => uptoBulkEntry x + uptoBulkEntries r
def uptoBulkEntry {H : Type} : Lit × DataW H → Nat
  | (.string bytes, d) => bytes.length + uptoBulk d + 1
  | (_, d) => uptoBulk d + 1
 end
def uptoSmall : (H : Type) → List (DataW H) → Bool := fun _ ds => decide (uptoBulkAll ds ≤ 1048576)
def OpenSpec.upto (s : _root_.Go.ChangeSpec) : _root_.Go.OpenSpec := { _root_.Go.OpenSpec.ofChange s with cond := some uptoSmall }

/-- 'linkhouselaw1.ExprParseMatchesSpec', WHERE WHAT IT READS IS OF BULK AT MOST 1048576: true; the input reads as it did. -/
def exprParseMatchesSpecUptoRow : OpenClaim := { program := "ytkgdkommahgakaadoor", sum := "4e55d4dca2d566d3af043bd62c15b5385531169388841d2b9e962d38afdb3638", func := "linkhouse/linkhouselaw1.ExprParseMatchesSpec", spec := "exprParseMatchesSpec", inPlace := ["internal/bytealg.IndexByteString"], unfollowed := true, recurses := true, named := ["linkhouse/expr.levels"], apart := false, laid := [("linkhouse/expr.levels", laid_linkhouse_expr_levels)], narrowed := true }
def ExprParseMatchesSpecUptoSaid : Prop := exprParseMatchesSpecUptoRow.holds Tryd.pinned (OpenSpec.upto exprParseMatchesSpecSpec)

/-- 'linkhouselaw1.ExprValueMatchesSpec', WHERE WHAT IT READS IS OF BULK AT MOST 1048576: true; the input reads as it did. -/
def exprValueMatchesSpecUptoRow : OpenClaim := { program := "ytkgdkommahgakaadoor", sum := "4e55d4dca2d566d3af043bd62c15b5385531169388841d2b9e962d38afdb3638", func := "linkhouse/linkhouselaw1.ExprValueMatchesSpec", spec := "exprValueMatchesSpec", inPlace := ["internal/bytealg.IndexByteString"], unfollowed := true, recurses := true, named := ["linkhouse/expr.levels"], apart := false, laid := [("linkhouse/expr.levels", laid_linkhouse_expr_levels)], narrowed := true }
def ExprValueMatchesSpecUptoSaid : Prop := exprValueMatchesSpecUptoRow.holds Tryd.pinned (OpenSpec.upto exprValueMatchesSpecSpec)

/-- 'linkhouselaw1.ExprSubstitutes', WHERE WHAT IT READS IS OF BULK AT MOST 1048576: true; the input reads as it did. -/
def exprSubstitutesUptoRow : OpenClaim := { program := "ytkgdkommahgakaadoor", sum := "4e55d4dca2d566d3af043bd62c15b5385531169388841d2b9e962d38afdb3638", func := "linkhouse/linkhouselaw1.ExprSubstitutes", spec := "exprSubstitutes", inPlace := ["internal/bytealg.IndexByteString"], unfollowed := true, recurses := true, named := ["linkhouse/expr.levels"], apart := false, laid := [("linkhouse/expr.levels", laid_linkhouse_expr_levels)], narrowed := true }
def ExprSubstitutesUptoSaid : Prop := exprSubstitutesUptoRow.holds Tryd.pinned (OpenSpec.upto exprSubstitutesSpec)

/-- 'linkhouselaw1.ExprSpaces', WHERE WHAT IT READS IS OF BULK AT MOST 1048576: true; the input reads as it did. -/
def exprSpacesUptoRow : OpenClaim := { program := "ytkgdkommahgakaadoor", sum := "4e55d4dca2d566d3af043bd62c15b5385531169388841d2b9e962d38afdb3638", func := "linkhouse/linkhouselaw1.ExprSpaces", spec := "exprSpaces", inPlace := ["internal/bytealg.IndexByteString"], unfollowed := true, recurses := true, named := ["linkhouse/expr.levels"], apart := false, laid := [("linkhouse/expr.levels", laid_linkhouse_expr_levels)], narrowed := true }
def ExprSpacesUptoSaid : Prop := exprSpacesUptoRow.holds Tryd.pinned (OpenSpec.upto exprSpacesSpec)

/-- 'linkhouselaw1.ExprTokensMatchesSpec', WHERE WHAT IT READS IS OF BULK AT MOST 1048576: true; the input reads as it did. -/
def exprTokensMatchesSpecUptoRow : OpenClaim := { program := "ytkgdkommahgakaadoor", sum := "4e55d4dca2d566d3af043bd62c15b5385531169388841d2b9e962d38afdb3638", func := "linkhouse/linkhouselaw1.ExprTokensMatchesSpec", spec := "exprTokensMatchesSpec", inPlace := ["internal/bytealg.IndexByteString"], unfollowed := true, recurses := true, named := ["linkhouse/expr.levels"], apart := false, laid := [("linkhouse/expr.levels", laid_linkhouse_expr_levels)], narrowed := true }
def ExprTokensMatchesSpecUptoSaid : Prop := exprTokensMatchesSpecUptoRow.holds Tryd.pinned (OpenSpec.upto exprTokensMatchesSpecSpec)

/-- 'linkhouselaw1.ExprRoundTrip', WHERE WHAT IT READS IS OF BULK AT MOST 1048576: true; the input reads as it did. -/
def exprRoundTripUptoRow : OpenClaim := { program := "ytkgdkommahgakaadoor", sum := "4e55d4dca2d566d3af043bd62c15b5385531169388841d2b9e962d38afdb3638", func := "linkhouse/linkhouselaw1.ExprRoundTrip", spec := "exprRoundTrip", inPlace := ["internal/bytealg.IndexByteString"], unfollowed := true, recurses := true, named := ["linkhouse/expr.levels"], apart := false, laid := [("linkhouse/expr.levels", laid_linkhouse_expr_levels)], narrowed := true }
def ExprRoundTripUptoSaid : Prop := exprRoundTripUptoRow.holds Tryd.pinned (OpenSpec.upto exprRoundTripSpec)

/-- 'linkhouselaw1.TokenJoinMatchesSpec', WHERE WHAT IT READS IS OF BULK AT MOST 1048576: true; the input reads as it did. -/
def tokenJoinMatchesSpecUptoRow : OpenClaim := { program := "ytkgdkommahgakaadoor", sum := "4e55d4dca2d566d3af043bd62c15b5385531169388841d2b9e962d38afdb3638", func := "linkhouse/linkhouselaw1.TokenJoinMatchesSpec", spec := "tokenJoinMatchesSpec", inPlace := ["internal/bytealg.IndexByteString", "internal/abi.NoEscape", "internal/bytealg.MakeNoZero"], recurses := true, named := ["strconv.ErrSyntax", "strconv.ErrRange", "internal/strconv.uint64pow10", "math/bits.deBruijn32tab", "math/bits.deBruijn64tab"], apart := false, laid := [("math/bits.deBruijn32tab", laid_math_bits_deBruijn32tab), ("math/bits.deBruijn64tab", laid_math_bits_deBruijn64tab), ("internal/strconv.uint64pow10", laid_internal_strconv_uint64pow10), ("strconv.ErrRange", laid_strconv_ErrRange), ("strconv.ErrSyntax", laid_strconv_ErrSyntax)], narrowed := true }
def TokenJoinMatchesSpecUptoSaid : Prop := tokenJoinMatchesSpecUptoRow.holds Tryd.pinned (OpenSpec.upto tokenJoinMatchesSpecSpec)

/-- 'linkhouselaw1.TokenRoundTrip', WHERE WHAT IT READS IS OF BULK AT MOST 1048576: true; the input reads as it did. -/
def tokenRoundTripUptoRow : OpenClaim := { program := "ytkgdkommahgakaadoor", sum := "4e55d4dca2d566d3af043bd62c15b5385531169388841d2b9e962d38afdb3638", func := "linkhouse/linkhouselaw1.TokenRoundTrip", spec := "tokenRoundTrip", inPlace := ["internal/bytealg.IndexByteString", "internal/abi.NoEscape", "internal/bytealg.MakeNoZero"], named := ["strconv.ErrSyntax", "strconv.ErrRange", "internal/strconv.uint64pow10", "math/bits.deBruijn32tab", "math/bits.deBruijn64tab"], apart := false, laid := [("math/bits.deBruijn32tab", laid_math_bits_deBruijn32tab), ("math/bits.deBruijn64tab", laid_math_bits_deBruijn64tab), ("internal/strconv.uint64pow10", laid_internal_strconv_uint64pow10), ("strconv.ErrRange", laid_strconv_ErrRange), ("strconv.ErrSyntax", laid_strconv_ErrSyntax)], narrowed := true }
def TokenRoundTripUptoSaid : Prop := tokenRoundTripUptoRow.holds Tryd.pinned (OpenSpec.upto tokenRoundTripSpec)

/-- 'linkhouselaw1.TokenComments', WHERE WHAT IT READS IS OF BULK AT MOST 1048576: true; the input reads as it did. -/
def tokenCommentsUptoRow : OpenClaim := { program := "ytkgdkommahgakaadoor", sum := "4e55d4dca2d566d3af043bd62c15b5385531169388841d2b9e962d38afdb3638", func := "linkhouse/linkhouselaw1.TokenComments", spec := "tokenComments", inPlace := ["internal/bytealg.IndexByteString", "internal/abi.NoEscape", "internal/bytealg.MakeNoZero"], named := ["strconv.ErrSyntax", "strconv.ErrRange", "internal/strconv.uint64pow10", "math/bits.deBruijn32tab", "math/bits.deBruijn64tab"], apart := false, laid := [("math/bits.deBruijn32tab", laid_math_bits_deBruijn32tab), ("math/bits.deBruijn64tab", laid_math_bits_deBruijn64tab), ("internal/strconv.uint64pow10", laid_internal_strconv_uint64pow10), ("strconv.ErrRange", laid_strconv_ErrRange), ("strconv.ErrSyntax", laid_strconv_ErrSyntax)], narrowed := true }
def TokenCommentsUptoSaid : Prop := tokenCommentsUptoRow.holds Tryd.pinned (OpenSpec.upto tokenCommentsSpec)

/-- 'linkhouselaw1.TokenParts', WHERE WHAT IT READS IS OF BULK AT MOST 1048576: true; the input reads as it did. -/
def tokenPartsUptoRow : OpenClaim := { program := "ytkgdkommahgakaadoor", sum := "4e55d4dca2d566d3af043bd62c15b5385531169388841d2b9e962d38afdb3638", func := "linkhouse/linkhouselaw1.TokenParts", spec := "tokenParts", inPlace := ["internal/bytealg.IndexByteString", "internal/abi.NoEscape", "internal/bytealg.MakeNoZero"], named := ["strconv.ErrSyntax", "strconv.ErrRange", "internal/strconv.uint64pow10", "math/bits.deBruijn32tab", "math/bits.deBruijn64tab"], apart := false, laid := [("math/bits.deBruijn32tab", laid_math_bits_deBruijn32tab), ("math/bits.deBruijn64tab", laid_math_bits_deBruijn64tab), ("internal/strconv.uint64pow10", laid_internal_strconv_uint64pow10), ("strconv.ErrRange", laid_strconv_ErrRange), ("strconv.ErrSyntax", laid_strconv_ErrSyntax)], narrowed := true }
def TokenPartsUptoSaid : Prop := tokenPartsUptoRow.holds Tryd.pinned (OpenSpec.upto tokenPartsSpec)

/-- 'linkhouselaw1.SourceParseMatchesSpec', WHERE WHAT IT READS IS OF BULK AT MOST 1048576: true; the input reads as it did. -/
def sourceParseMatchesSpecUptoRow : OpenClaim := { program := "ytkgdkommahgakaadoor", sum := "4e55d4dca2d566d3af043bd62c15b5385531169388841d2b9e962d38afdb3638", func := "linkhouse/linkhouselaw1.SourceParseMatchesSpec", spec := "sourceParseMatchesSpec", inPlace := ["internal/bytealg.IndexByteString", "internal/abi.NoEscape", "internal/bytealg.MakeNoZero"], named := ["strconv.ErrSyntax", "strconv.ErrRange", "internal/strconv.uint64pow10", "math/bits.deBruijn32tab", "math/bits.deBruijn64tab"], apart := false, laid := [("math/bits.deBruijn32tab", laid_math_bits_deBruijn32tab), ("math/bits.deBruijn64tab", laid_math_bits_deBruijn64tab), ("internal/strconv.uint64pow10", laid_internal_strconv_uint64pow10), ("strconv.ErrRange", laid_strconv_ErrRange), ("strconv.ErrSyntax", laid_strconv_ErrSyntax)], narrowed := true }
def SourceParseMatchesSpecUptoSaid : Prop := sourceParseMatchesSpecUptoRow.holds Tryd.pinned (OpenSpec.upto sourceParseMatchesSpecSpec)

/-- 'linkhouselaw1.SourcePrintMatchesSpec', WHERE WHAT IT READS IS OF BULK AT MOST 1048576: true; the input reads as it did. -/
def sourcePrintMatchesSpecUptoRow : OpenClaim := { program := "ytkgdkommahgakaadoor", sum := "4e55d4dca2d566d3af043bd62c15b5385531169388841d2b9e962d38afdb3638", func := "linkhouse/linkhouselaw1.SourcePrintMatchesSpec", spec := "sourcePrintMatchesSpec", inPlace := ["internal/bytealg.IndexByteString", "internal/abi.NoEscape", "internal/bytealg.MakeNoZero"], recurses := true, named := ["strconv.ErrSyntax", "strconv.ErrRange", "internal/strconv.uint64pow10", "math/bits.deBruijn32tab", "math/bits.deBruijn64tab"], apart := false, laid := [("math/bits.deBruijn32tab", laid_math_bits_deBruijn32tab), ("math/bits.deBruijn64tab", laid_math_bits_deBruijn64tab), ("internal/strconv.uint64pow10", laid_internal_strconv_uint64pow10), ("strconv.ErrRange", laid_strconv_ErrRange), ("strconv.ErrSyntax", laid_strconv_ErrSyntax)], narrowed := true }
def SourcePrintMatchesSpecUptoSaid : Prop := sourcePrintMatchesSpecUptoRow.holds Tryd.pinned (OpenSpec.upto sourcePrintMatchesSpecSpec)

/-- 'linkhouselaw1.SourceRoundTrip', WHERE WHAT IT READS IS OF BULK AT MOST 1048576: true; the input reads as it did. -/
def sourceRoundTripUptoRow : OpenClaim := { program := "ytkgdkommahgakaadoor", sum := "4e55d4dca2d566d3af043bd62c15b5385531169388841d2b9e962d38afdb3638", func := "linkhouse/linkhouselaw1.SourceRoundTrip", spec := "sourceRoundTrip", inPlace := ["internal/bytealg.IndexByteString", "internal/abi.NoEscape", "internal/bytealg.MakeNoZero"], named := ["strconv.ErrSyntax", "strconv.ErrRange", "internal/strconv.uint64pow10", "math/bits.deBruijn32tab", "math/bits.deBruijn64tab"], apart := false, laid := [("math/bits.deBruijn32tab", laid_math_bits_deBruijn32tab), ("math/bits.deBruijn64tab", laid_math_bits_deBruijn64tab), ("internal/strconv.uint64pow10", laid_internal_strconv_uint64pow10), ("strconv.ErrRange", laid_strconv_ErrRange), ("strconv.ErrSyntax", laid_strconv_ErrSyntax)], narrowed := true }
def SourceRoundTripUptoSaid : Prop := sourceRoundTripUptoRow.holds Tryd.pinned (OpenSpec.upto sourceRoundTripSpec)

/-- 'linkhouselaw1.SourcePrintsParsed', WHERE WHAT IT READS IS OF BULK AT MOST 1048576: true; the input reads as it did. -/
def sourcePrintsParsedUptoRow : OpenClaim := { program := "ytkgdkommahgakaadoor", sum := "4e55d4dca2d566d3af043bd62c15b5385531169388841d2b9e962d38afdb3638", func := "linkhouse/linkhouselaw1.SourcePrintsParsed", spec := "sourcePrintsParsed", inPlace := ["internal/bytealg.IndexByteString", "internal/abi.NoEscape", "internal/bytealg.MakeNoZero"], named := ["strconv.ErrSyntax", "strconv.ErrRange", "internal/strconv.uint64pow10", "math/bits.deBruijn32tab", "math/bits.deBruijn64tab"], apart := false, laid := [("math/bits.deBruijn32tab", laid_math_bits_deBruijn32tab), ("math/bits.deBruijn64tab", laid_math_bits_deBruijn64tab), ("internal/strconv.uint64pow10", laid_internal_strconv_uint64pow10), ("strconv.ErrRange", laid_strconv_ErrRange), ("strconv.ErrSyntax", laid_strconv_ErrSyntax)], narrowed := true }
def SourcePrintsParsedUptoSaid : Prop := sourcePrintsParsedUptoRow.holds Tryd.pinned (OpenSpec.upto sourcePrintsParsedSpec)

end Rows
end Go.Proofs.YtkgdkommahgakaaDoor
