/-
  No cell of these rows narrows 'for every input' (looked for: loops, veiled, ifaces, maps, wideKeys, modest, calm, conditions, laid).
  DERIVED. THE GIVEN ROWS OF THIS SEAT. 6 by the template 'for every input the law returns true; each argument reads behind the call as it read before'; 0 by the template 'total and deterministic' (their statements: YtggeadnjikpjnaaTotals.lean).
  GIVEN WITH THE SEED: the statements are not yours to turn. If you find one false, say at which input.
  Laid BY PROGRAM, IN A SANDBOX (cutbox-rows.mjs): the forced cells as the released guide's own fill.sh prints them over the translation 6f4fcf6a7cc1dd9d… (all of the seat's roots in one cut). By AI agents, Wed Nov 11 2026. No macro, syntax, notation, axiom, sorry.
-/
import Derived.Test.YtggeadnjikpjnaaChecked
import GoSem.Claim
import GoSem.ClaimJoined
import GoSem.ClaimMapViews
import Derived.JoinedTies
import Derived.KernelRfl
namespace Go.Proofs.Ytggeadnjikpjnaa
/- THE CELL 'sum', in the pinned program and in every row, IS THE sha256 OF THE DUMP (.gsa) THAT YtggeadnjikpjnaaProg.lean LOADS. Nothing in Lean hashes anything: it is a label: what it is worth is what the hold of that sum in a sandbox is worth. -/
noncomputable def Try.pinned : Pinned := { name := "ytggeadnjikpjnaa", sum := "6f4fcf6a7cc1dd9d8491eb75222842ead0e8cf86a6181d757495b4cd90a227b7", checked := Try.checked }
namespace Rows
def none {H : Type} : Left H := { results := [], args := [] }

/-- 'mullionlaw18.SatSolves': WHATEVER THE INPUT: true; the input reads as it did. -/
def satSolvesSpec : ChangeSpec := { name := "satSolves", fn := fun _ => fun
  | [d1, d2, d3] => { results := [.lit (.bool true)], args := [d1, d2, d3] }
  | _ => none }
def satSolvesRow : OpenClaim := { program := "ytggeadnjikpjnaa", sum := "6f4fcf6a7cc1dd9d8491eb75222842ead0e8cf86a6181d757495b4cd90a227b7", func := "mullion/mullionlaw18.SatSolves", spec := "satSolves", unfollowed := true, recurses := true, apart := false }
def SatSolvesSaid : Prop := satSolvesRow.holds Try.pinned (OpenSpec.ofChange satSolvesSpec)

/-- ITS FALSE NEIGHBOUR: 'it returns false'. Refute it at one input. -/
def satSolvesWrong : ChangeSpec := { name := "satSolves", fn := fun _ => fun
  | [d1, d2, d3] => { results := [.lit (.bool false)], args := [d1, d2, d3] }
  | _ => none }
def SatSolvesWrongFalsely : Prop := satSolvesRow.holds Try.pinned (OpenSpec.ofChange satSolvesWrong)

/-- 'mullionlaw18.SatUnits': WHATEVER THE INPUT: true; the input reads as it did. -/
def satUnitsSpec : ChangeSpec := { name := "satUnits", fn := fun _ => fun
  | [d1, d2] => { results := [.lit (.bool true)], args := [d1, d2] }
  | _ => none }
def satUnitsRow : OpenClaim := { program := "ytggeadnjikpjnaa", sum := "6f4fcf6a7cc1dd9d8491eb75222842ead0e8cf86a6181d757495b4cd90a227b7", func := "mullion/mullionlaw18.SatUnits", spec := "satUnits", unfollowed := true, recurses := true, apart := false }
def SatUnitsSaid : Prop := satUnitsRow.holds Try.pinned (OpenSpec.ofChange satUnitsSpec)

/-- ITS FALSE NEIGHBOUR: 'it returns false'. Refute it at one input. -/
def satUnitsWrong : ChangeSpec := { name := "satUnits", fn := fun _ => fun
  | [d1, d2] => { results := [.lit (.bool false)], args := [d1, d2] }
  | _ => none }
def SatUnitsWrongFalsely : Prop := satUnitsRow.holds Try.pinned (OpenSpec.ofChange satUnitsWrong)

/-- 'mullionlaw18.SatLearns': WHATEVER THE INPUT: true; the input reads as it did. -/
def satLearnsSpec : ChangeSpec := { name := "satLearns", fn := fun _ => fun
  | [d1, d2, d3, d4] => { results := [.lit (.bool true)], args := [d1, d2, d3, d4] }
  | _ => none }
def satLearnsRow : OpenClaim := { program := "ytggeadnjikpjnaa", sum := "6f4fcf6a7cc1dd9d8491eb75222842ead0e8cf86a6181d757495b4cd90a227b7", func := "mullion/mullionlaw18.SatLearns", spec := "satLearns", unfollowed := true, recurses := true, apart := false }
def SatLearnsSaid : Prop := satLearnsRow.holds Try.pinned (OpenSpec.ofChange satLearnsSpec)

/-- ITS FALSE NEIGHBOUR: 'it returns false'. Refute it at one input. -/
def satLearnsWrong : ChangeSpec := { name := "satLearns", fn := fun _ => fun
  | [d1, d2, d3, d4] => { results := [.lit (.bool false)], args := [d1, d2, d3, d4] }
  | _ => none }
def SatLearnsWrongFalsely : Prop := satLearnsRow.holds Try.pinned (OpenSpec.ofChange satLearnsWrong)

/-- 'mullionlaw18.SatPigeons': WHATEVER THE INPUT: true; the input reads as it did. -/
def satPigeonsSpec : ChangeSpec := { name := "satPigeons", fn := fun _ => fun
  | [d] => { results := [.lit (.bool true)], args := [d] }
  | _ => none }
def satPigeonsRow : OpenClaim := { program := "ytggeadnjikpjnaa", sum := "6f4fcf6a7cc1dd9d8491eb75222842ead0e8cf86a6181d757495b4cd90a227b7", func := "mullion/mullionlaw18.SatPigeons", spec := "satPigeons", unfollowed := true, recurses := true, apart := false }
def SatPigeonsSaid : Prop := satPigeonsRow.holds Try.pinned (OpenSpec.ofChange satPigeonsSpec)

/-- ITS FALSE NEIGHBOUR: 'it returns false'. Refute it at one input. -/
def satPigeonsWrong : ChangeSpec := { name := "satPigeons", fn := fun _ => fun
  | [d] => { results := [.lit (.bool false)], args := [d] }
  | _ => none }
def SatPigeonsWrongFalsely : Prop := satPigeonsRow.holds Try.pinned (OpenSpec.ofChange satPigeonsWrong)

/-- 'mullionlaw18.SatChains': WHATEVER THE INPUT: true; the input reads as it did. -/
def satChainsSpec : ChangeSpec := { name := "satChains", fn := fun _ => fun
  | [d1, d2] => { results := [.lit (.bool true)], args := [d1, d2] }
  | _ => none }
def satChainsRow : OpenClaim := { program := "ytggeadnjikpjnaa", sum := "6f4fcf6a7cc1dd9d8491eb75222842ead0e8cf86a6181d757495b4cd90a227b7", func := "mullion/mullionlaw18.SatChains", spec := "satChains", unfollowed := true, recurses := true, apart := false }
def SatChainsSaid : Prop := satChainsRow.holds Try.pinned (OpenSpec.ofChange satChainsSpec)

/-- ITS FALSE NEIGHBOUR: 'it returns false'. Refute it at one input. -/
def satChainsWrong : ChangeSpec := { name := "satChains", fn := fun _ => fun
  | [d1, d2] => { results := [.lit (.bool false)], args := [d1, d2] }
  | _ => none }
def SatChainsWrongFalsely : Prop := satChainsRow.holds Try.pinned (OpenSpec.ofChange satChainsWrong)

/-- 'mullionlaw18.SatParity': WHATEVER THE INPUT: true; the input reads as it did. -/
def satParitySpec : ChangeSpec := { name := "satParity", fn := fun _ => fun
  | [d] => { results := [.lit (.bool true)], args := [d] }
  | _ => none }
def satParityRow : OpenClaim := { program := "ytggeadnjikpjnaa", sum := "6f4fcf6a7cc1dd9d8491eb75222842ead0e8cf86a6181d757495b4cd90a227b7", func := "mullion/mullionlaw18.SatParity", spec := "satParity", unfollowed := true, recurses := true, apart := false }
def SatParitySaid : Prop := satParityRow.holds Try.pinned (OpenSpec.ofChange satParitySpec)

/-- ITS FALSE NEIGHBOUR: 'it returns false'. Refute it at one input. -/
def satParityWrong : ChangeSpec := { name := "satParity", fn := fun _ => fun
  | [d] => { results := [.lit (.bool false)], args := [d] }
  | _ => none }
def SatParityWrongFalsely : Prop := satParityRow.holds Try.pinned (OpenSpec.ofChange satParityWrong)

/- THE SECOND FORM. 'bulk': how many values and letters a reading holds, each counted each time it is reached (what is shared counts as often as it is met; a slice's spare places count too). A statement '..UptoSaid' is the law's where the arguments, and the package variables that the reading takes, are together of bulk at most 1048576: NARROWER than '..Said'. Prove '..Said' where nothing that the law and all that it calls make is longer than what came in: it says more and counts as full. Else prove '..UptoSaid'. A law counts once. -/
mutual
def uptoBulk {H : Type} : DataW H → Nat
  | .lit (.string bytes) => bytes.length + 1
  | .lit _ => 1
  | .nil => 1
  | .ptr d => uptoBulk d + 1
  | .slice elems spare => uptoBulkAll elems + uptoBulkAll spare + 1
  | .agg parts => uptoBulkAll parts + 1
  | .iface _ d => uptoBulk d + 1
  | .map entries => uptoBulkEntries entries + 1
  | .held _ => 1
def uptoBulkAll {H : Type} : List (DataW H) → Nat
  | [] => 0
  | d :: r => uptoBulk d + uptoBulkAll r
def uptoBulkEntries {H : Type} : List (Lit × DataW H) → Nat
  | [] => 0
  | x :: r => uptoBulkEntry x + uptoBulkEntries r
def uptoBulkEntry {H : Type} : Lit × DataW H → Nat
  | (.string bytes, d) => bytes.length + uptoBulk d + 1
  | (_, d) => uptoBulk d + 1
 end
def uptoSmall : (H : Type) → List (DataW H) → Bool := fun _ ds => decide (uptoBulkAll ds ≤ 1048576)
def OpenSpec.upto (s : _root_.Go.ChangeSpec) : _root_.Go.OpenSpec := { _root_.Go.OpenSpec.ofChange s with cond := some uptoSmall }

/-- 'mullionlaw18.SatSolves', WHERE WHAT IT READS IS OF BULK AT MOST 1048576: true; the input reads as it did. -/
def satSolvesUptoRow : OpenClaim := { program := "ytggeadnjikpjnaa", sum := "6f4fcf6a7cc1dd9d8491eb75222842ead0e8cf86a6181d757495b4cd90a227b7", func := "mullion/mullionlaw18.SatSolves", spec := "satSolves", unfollowed := true, recurses := true, apart := false, narrowed := true }
def SatSolvesUptoSaid : Prop := satSolvesUptoRow.holds Try.pinned (OpenSpec.upto satSolvesSpec)

/-- 'mullionlaw18.SatUnits', WHERE WHAT IT READS IS OF BULK AT MOST 1048576: true; the input reads as it did. -/
def satUnitsUptoRow : OpenClaim := { program := "ytggeadnjikpjnaa", sum := "6f4fcf6a7cc1dd9d8491eb75222842ead0e8cf86a6181d757495b4cd90a227b7", func := "mullion/mullionlaw18.SatUnits", spec := "satUnits", unfollowed := true, recurses := true, apart := false, narrowed := true }
def SatUnitsUptoSaid : Prop := satUnitsUptoRow.holds Try.pinned (OpenSpec.upto satUnitsSpec)

/-- 'mullionlaw18.SatLearns', WHERE WHAT IT READS IS OF BULK AT MOST 1048576: true; the input reads as it did. -/
def satLearnsUptoRow : OpenClaim := { program := "ytggeadnjikpjnaa", sum := "6f4fcf6a7cc1dd9d8491eb75222842ead0e8cf86a6181d757495b4cd90a227b7", func := "mullion/mullionlaw18.SatLearns", spec := "satLearns", unfollowed := true, recurses := true, apart := false, narrowed := true }
def SatLearnsUptoSaid : Prop := satLearnsUptoRow.holds Try.pinned (OpenSpec.upto satLearnsSpec)

/-- 'mullionlaw18.SatPigeons', WHERE WHAT IT READS IS OF BULK AT MOST 1048576: true; the input reads as it did. -/
def satPigeonsUptoRow : OpenClaim := { program := "ytggeadnjikpjnaa", sum := "6f4fcf6a7cc1dd9d8491eb75222842ead0e8cf86a6181d757495b4cd90a227b7", func := "mullion/mullionlaw18.SatPigeons", spec := "satPigeons", unfollowed := true, recurses := true, apart := false, narrowed := true }
def SatPigeonsUptoSaid : Prop := satPigeonsUptoRow.holds Try.pinned (OpenSpec.upto satPigeonsSpec)

/-- 'mullionlaw18.SatChains', WHERE WHAT IT READS IS OF BULK AT MOST 1048576: true; the input reads as it did. -/
def satChainsUptoRow : OpenClaim := { program := "ytggeadnjikpjnaa", sum := "6f4fcf6a7cc1dd9d8491eb75222842ead0e8cf86a6181d757495b4cd90a227b7", func := "mullion/mullionlaw18.SatChains", spec := "satChains", unfollowed := true, recurses := true, apart := false, narrowed := true }
def SatChainsUptoSaid : Prop := satChainsUptoRow.holds Try.pinned (OpenSpec.upto satChainsSpec)

/-- 'mullionlaw18.SatParity', WHERE WHAT IT READS IS OF BULK AT MOST 1048576: true; the input reads as it did. -/
def satParityUptoRow : OpenClaim := { program := "ytggeadnjikpjnaa", sum := "6f4fcf6a7cc1dd9d8491eb75222842ead0e8cf86a6181d757495b4cd90a227b7", func := "mullion/mullionlaw18.SatParity", spec := "satParity", unfollowed := true, recurses := true, apart := false, narrowed := true }
def SatParityUptoSaid : Prop := satParityUptoRow.holds Try.pinned (OpenSpec.upto satParitySpec)

end Rows
end Go.Proofs.Ytggeadnjikpjnaa
