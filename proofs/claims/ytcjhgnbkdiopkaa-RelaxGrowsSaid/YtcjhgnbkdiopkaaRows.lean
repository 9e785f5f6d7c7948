/-
  No cell of these rows narrows 'for every input' (looked for: loops, veiled, ifaces, maps, wideKeys, modest, calm, conditions, laid).
  DERIVED. THE GIVEN ROWS OF THIS SEAT. 4 by the template 'for every input the law returns true; each argument reads behind the call as it read before'; 0 by the template 'total and deterministic' (their statements: YtcjhgnbkdiopkaaTotals.lean).
  GIVEN WITH THE SEED: the statements are not yours to turn. If you find one false, say at which input.
  Laid BY PROGRAM, IN A SANDBOX (cutbox-rows.mjs): the forced cells as the released guide's own fill.sh prints them over the translation f689d607ae5954aa… (all of the seat's roots in one cut). By AI agents, Wed Nov 11 2026. No macro, syntax, notation, axiom, sorry.
-/
import Derived.Test.YtcjhgnbkdiopkaaChecked
import GoSem.Claim
import GoSem.ClaimJoined
import GoSem.ClaimMapViews
import Derived.JoinedTies
import Derived.KernelRfl
namespace Go.Proofs.Ytcjhgnbkdiopkaa
/- THE CELL 'sum', in the pinned program and in every row, IS THE sha256 OF THE DUMP (.gsa) THAT YtcjhgnbkdiopkaaProg.lean LOADS. Nothing in Lean hashes anything: it is a label: what it is worth is what the hold of that sum in a sandbox is worth. -/
noncomputable def Try.pinned : Pinned := { name := "ytcjhgnbkdiopkaa", sum := "f689d607ae5954aab663d027c37895be3bd194993d29a8fd8f92dd25c160d91c", checked := Try.checked }
namespace Rows
def none {H : Type} : Left H := { results := [], args := [] }

/-- 'linkhouselaw1.FragmentMonotone': WHATEVER THE INPUT: true; the input reads as it did. -/
def fragmentMonotoneSpec : ChangeSpec := { name := "fragmentMonotone", fn := fun _ => fun
  | [d1, d2, d3] => { results := [.lit (.bool true)], args := [d1, d2, d3] }
  | _ => none }
def fragmentMonotoneRow : OpenClaim := { program := "ytcjhgnbkdiopkaa", sum := "f689d607ae5954aab663d027c37895be3bd194993d29a8fd8f92dd25c160d91c", func := "linkhouse/linkhouselaw1.FragmentMonotone", spec := "fragmentMonotone", apart := false }
def FragmentMonotoneSaid : Prop := fragmentMonotoneRow.holds Try.pinned (OpenSpec.ofChange fragmentMonotoneSpec)

/-- ITS FALSE NEIGHBOUR: 'it returns false'. Refute it at one input. -/
def fragmentMonotoneWrong : ChangeSpec := { name := "fragmentMonotone", fn := fun _ => fun
  | [d1, d2, d3] => { results := [.lit (.bool false)], args := [d1, d2, d3] }
  | _ => none }
def FragmentMonotoneWrongFalsely : Prop := fragmentMonotoneRow.holds Try.pinned (OpenSpec.ofChange fragmentMonotoneWrong)

/-- 'linkhouselaw1.FragmentAligned': WHATEVER THE INPUT: true; the input reads as it did. -/
def fragmentAlignedSpec : ChangeSpec := { name := "fragmentAligned", fn := fun _ => fun
  | [d1, d2] => { results := [.lit (.bool true)], args := [d1, d2] }
  | _ => none }
def fragmentAlignedRow : OpenClaim := { program := "ytcjhgnbkdiopkaa", sum := "f689d607ae5954aab663d027c37895be3bd194993d29a8fd8f92dd25c160d91c", func := "linkhouse/linkhouselaw1.FragmentAligned", spec := "fragmentAligned", apart := false }
def FragmentAlignedSaid : Prop := fragmentAlignedRow.holds Try.pinned (OpenSpec.ofChange fragmentAlignedSpec)

/-- ITS FALSE NEIGHBOUR: 'it returns false'. Refute it at one input. -/
def fragmentAlignedWrong : ChangeSpec := { name := "fragmentAligned", fn := fun _ => fun
  | [d1, d2] => { results := [.lit (.bool false)], args := [d1, d2] }
  | _ => none }
def FragmentAlignedWrongFalsely : Prop := fragmentAlignedRow.holds Try.pinned (OpenSpec.ofChange fragmentAlignedWrong)

/-- 'linkhouselaw1.RelaxSettleMatchesSpec': WHATEVER THE INPUT: true; the input reads as it did. -/
def relaxSettleMatchesSpecSpec : ChangeSpec := { name := "relaxSettleMatchesSpec", fn := fun _ => fun
  | [d] => { results := [.lit (.bool true)], args := [d] }
  | _ => none }
def relaxSettleMatchesSpecRow : OpenClaim := { program := "ytcjhgnbkdiopkaa", sum := "f689d607ae5954aab663d027c37895be3bd194993d29a8fd8f92dd25c160d91c", func := "linkhouse/linkhouselaw1.RelaxSettleMatchesSpec", spec := "relaxSettleMatchesSpec", apart := false }
def RelaxSettleMatchesSpecSaid : Prop := relaxSettleMatchesSpecRow.holds Try.pinned (OpenSpec.ofChange relaxSettleMatchesSpecSpec)

/-- ITS FALSE NEIGHBOUR: 'it returns false'. Refute it at one input. -/
def relaxSettleMatchesSpecWrong : ChangeSpec := { name := "relaxSettleMatchesSpec", fn := fun _ => fun
  | [d] => { results := [.lit (.bool false)], args := [d] }
  | _ => none }
def RelaxSettleMatchesSpecWrongFalsely : Prop := relaxSettleMatchesSpecRow.holds Try.pinned (OpenSpec.ofChange relaxSettleMatchesSpecWrong)

/-- 'linkhouselaw1.RelaxGrows': WHATEVER THE INPUT: true; the input reads as it did. -/
def relaxGrowsSpec : ChangeSpec := { name := "relaxGrows", fn := fun _ => fun
  | [d1, d2, d3] => { results := [.lit (.bool true)], args := [d1, d2, d3] }
  | _ => none }
def relaxGrowsRow : OpenClaim := { program := "ytcjhgnbkdiopkaa", sum := "f689d607ae5954aab663d027c37895be3bd194993d29a8fd8f92dd25c160d91c", func := "linkhouse/linkhouselaw1.RelaxGrows", spec := "relaxGrows", apart := false }
def RelaxGrowsSaid : Prop := relaxGrowsRow.holds Try.pinned (OpenSpec.ofChange relaxGrowsSpec)

/-- ITS FALSE NEIGHBOUR: 'it returns false'. Refute it at one input. -/
def relaxGrowsWrong : ChangeSpec := { name := "relaxGrows", fn := fun _ => fun
  | [d1, d2, d3] => { results := [.lit (.bool false)], args := [d1, d2, d3] }
  | _ => none }
def RelaxGrowsWrongFalsely : Prop := relaxGrowsRow.holds Try.pinned (OpenSpec.ofChange relaxGrowsWrong)

/- THE SECOND FORM. 'bulk': how many values and letters a reading holds, each counted each time it is reached (what is shared counts as often as it is met; a slice's spare places count too). A statement '..UptoSaid' is the law's where the arguments, and the package variables that the reading takes, are together of bulk at most 1048576: NARROWER than '..Said'. Prove '..Said' where nothing that the law and all that it calls make is longer than what came in: it says more and counts as full. Else prove '..UptoSaid'. A law counts once. -/
mutual
def uptoBulk {H : Type} : DataW H → Nat
  | .lit (.string bytes) => bytes.length + 1
  | .lit _ => 1
  | .nil => 1
  | .ptr d => uptoBulk d + 1
  | .slice elems spare => uptoBulkAll elems + uptoBulkAll spare + 1
  | .agg parts => uptoBulkAll parts + 1
  | .iface _ d => uptoBulk d + 1
  | .map entries => uptoBulkEntries entries + 1
  | .held _ => 1
def uptoBulkAll {H : Type} : List (DataW H) → Nat
  | [] => 0
  | d :: r => uptoBulk d + uptoBulkAll r
def uptoBulkEntries {H : Type} : List (Lit × DataW H) → Nat
  | [] => 0
  | x :: r => uptoBulkEntry x + uptoBulkEntries r
def uptoBulkEntry {H : Type} : Lit × DataW H → Nat
  | (.string bytes, d) => bytes.length + uptoBulk d + 1
  | (_, d) => uptoBulk d + 1
 end
def uptoSmall : (H : Type) → List (DataW H) → Bool := fun _ ds => decide (uptoBulkAll ds ≤ 1048576)
def OpenSpec.upto (s : _root_.Go.ChangeSpec) : _root_.Go.OpenSpec := { _root_.Go.OpenSpec.ofChange s with cond := some uptoSmall }

/-- 'linkhouselaw1.FragmentMonotone', WHERE WHAT IT READS IS OF BULK AT MOST 1048576: true; the input reads as it did. -/
def fragmentMonotoneUptoRow : OpenClaim := { program := "ytcjhgnbkdiopkaa", sum := "f689d607ae5954aab663d027c37895be3bd194993d29a8fd8f92dd25c160d91c", func := "linkhouse/linkhouselaw1.FragmentMonotone", spec := "fragmentMonotone", apart := false, narrowed := true }
def FragmentMonotoneUptoSaid : Prop := fragmentMonotoneUptoRow.holds Try.pinned (OpenSpec.upto fragmentMonotoneSpec)

/-- 'linkhouselaw1.FragmentAligned', WHERE WHAT IT READS IS OF BULK AT MOST 1048576: true; the input reads as it did. -/
def fragmentAlignedUptoRow : OpenClaim := { program := "ytcjhgnbkdiopkaa", sum := "f689d607ae5954aab663d027c37895be3bd194993d29a8fd8f92dd25c160d91c", func := "linkhouse/linkhouselaw1.FragmentAligned", spec := "fragmentAligned", apart := false, narrowed := true }
def FragmentAlignedUptoSaid : Prop := fragmentAlignedUptoRow.holds Try.pinned (OpenSpec.upto fragmentAlignedSpec)

/-- 'linkhouselaw1.RelaxSettleMatchesSpec', WHERE WHAT IT READS IS OF BULK AT MOST 1048576: true; the input reads as it did. -/
def relaxSettleMatchesSpecUptoRow : OpenClaim := { program := "ytcjhgnbkdiopkaa", sum := "f689d607ae5954aab663d027c37895be3bd194993d29a8fd8f92dd25c160d91c", func := "linkhouse/linkhouselaw1.RelaxSettleMatchesSpec", spec := "relaxSettleMatchesSpec", apart := false, narrowed := true }
def RelaxSettleMatchesSpecUptoSaid : Prop := relaxSettleMatchesSpecUptoRow.holds Try.pinned (OpenSpec.upto relaxSettleMatchesSpecSpec)

/-- 'linkhouselaw1.RelaxGrows', WHERE WHAT IT READS IS OF BULK AT MOST 1048576: true; the input reads as it did. -/
def relaxGrowsUptoRow : OpenClaim := { program := "ytcjhgnbkdiopkaa", sum := "f689d607ae5954aab663d027c37895be3bd194993d29a8fd8f92dd25c160d91c", func := "linkhouse/linkhouselaw1.RelaxGrows", spec := "relaxGrows", apart := false, narrowed := true }
def RelaxGrowsUptoSaid : Prop := relaxGrowsUptoRow.holds Try.pinned (OpenSpec.upto relaxGrowsSpec)

end Rows
end Go.Proofs.Ytcjhgnbkdiopkaa
