/-
  NARROWER THAN 'FOR EVERY INPUT', by the rows' own cells (each row's printed sentence says how): LiftTells: loops, laid · LiftTrue: loops, laid · LiftBack: loops, laid · LiftAbs: laid · LiftStays: loops, laid · DivsTell: loops, laid · DivsTrue: loops, laid · DivsOnly: loops, laid · DivsDigits: laid · DivsStays: loops, laid.
  DERIVED. THE GIVEN ROWS OF THIS SEAT. 10 by the template 'for every input the law returns true; each argument reads behind the call as it read before'; 0 by the template 'total and deterministic' (their statements: YtfndnjmnakdglaaGreatDoorTotals.lean).
  GIVEN WITH THE SEED: the statements are not yours to turn. If you find one false, say at which input.
  Laid BY PROGRAM, IN A SANDBOX (cutbox-rows.mjs): the forced cells as the released guide's own fill.sh prints them over the translation 0b3b205b1a720915… (all of the seat's roots in one cut). By AI agents, Wed Nov 11 2026. No macro, syntax, notation, axiom, sorry.
-/
import Derived.Test.YtfndnjmnakdglaaGreatDoorChecked
import GoSem.Claim
import GoSem.ClaimJoined
import GoSem.ClaimMapViews
import Derived.JoinedTies
import Derived.KernelRfl
namespace Go.Proofs.YtfndnjmnakdglaaGreatDoor
/- THE CELL 'sum', in the pinned program and in every row, IS THE sha256 OF THE DUMP (.gsa) THAT YtfndnjmnakdglaaGreatDoorProg.lean LOADS. Nothing in Lean hashes anything: it is a label: what it is worth is what the hold of that sum in a sandbox is worth. -/
noncomputable def Tryz.pinned : Pinned := { name := "ytfndnjmnakdglaagreatdoor", sum := "0b3b205b1a720915f44102c9736f8c066b0bb1483fcd5473dafdaf4d93176387", checked := Tryz.checked }
namespace Rows
def none {H : Type} : Left H := { results := [], args := [] }

/- WHAT THE LISTED PACKAGE-LEVEL VARIABLES READ AS WHEN THE CALL BEGINS. Each datum BY PROGRAM (the guide's laid-datum.mjs) off the statement by which the dump's own 'gosem.cut.vars' lays the variable. In a bare row this is a premise. The card (YtfndnjmnakdglaaGreatDoorCards.lean) ties it to the program's text. -/
def laid_math_bits_deBruijn32tab {H : Type} : DataW H := .agg [.lit (.int .u8 0), .lit (.int .u8 1), .lit (.int .u8 28), .lit (.int .u8 2), .lit (.int .u8 29), .lit (.int .u8 14), .lit (.int .u8 24), .lit (.int .u8 3), .lit (.int .u8 30), .lit (.int .u8 22), .lit (.int .u8 20), .lit (.int .u8 15), .lit (.int .u8 25), .lit (.int .u8 17), .lit (.int .u8 4), .lit (.int .u8 8), .lit (.int .u8 31), .lit (.int .u8 27), .lit (.int .u8 13), .lit (.int .u8 23), .lit (.int .u8 21), .lit (.int .u8 19), .lit (.int .u8 16), .lit (.int .u8 7), .lit (.int .u8 26), .lit (.int .u8 12), .lit (.int .u8 18), .lit (.int .u8 6), .lit (.int .u8 11), .lit (.int .u8 5), .lit (.int .u8 10), .lit (.int .u8 9)]
def laid_math_bits_deBruijn64tab {H : Type} : DataW H := .agg [.lit (.int .u8 0), .lit (.int .u8 1), .lit (.int .u8 56), .lit (.int .u8 2), .lit (.int .u8 57), .lit (.int .u8 49), .lit (.int .u8 28), .lit (.int .u8 3), .lit (.int .u8 61), .lit (.int .u8 58), .lit (.int .u8 42), .lit (.int .u8 50), .lit (.int .u8 38), .lit (.int .u8 29), .lit (.int .u8 17), .lit (.int .u8 4), .lit (.int .u8 62), .lit (.int .u8 47), .lit (.int .u8 59), .lit (.int .u8 36), .lit (.int .u8 45), .lit (.int .u8 43), .lit (.int .u8 51), .lit (.int .u8 22), .lit (.int .u8 53), .lit (.int .u8 39), .lit (.int .u8 33), .lit (.int .u8 30), .lit (.int .u8 24), .lit (.int .u8 18), .lit (.int .u8 12), .lit (.int .u8 5), .lit (.int .u8 63), .lit (.int .u8 55), .lit (.int .u8 48), .lit (.int .u8 27), .lit (.int .u8 60), .lit (.int .u8 41), .lit (.int .u8 37), .lit (.int .u8 16), .lit (.int .u8 46), .lit (.int .u8 35), .lit (.int .u8 44), .lit (.int .u8 21), .lit (.int .u8 52), .lit (.int .u8 32), .lit (.int .u8 23), .lit (.int .u8 11), .lit (.int .u8 54), .lit (.int .u8 26), .lit (.int .u8 40), .lit (.int .u8 15), .lit (.int .u8 34), .lit (.int .u8 20), .lit (.int .u8 31), .lit (.int .u8 10), .lit (.int .u8 25), .lit (.int .u8 14), .lit (.int .u8 19), .lit (.int .u8 9), .lit (.int .u8 13), .lit (.int .u8 8), .lit (.int .u8 7), .lit (.int .u8 6)]
def laid_internal_strconv_uint64pow10 {H : Type} : DataW H := .agg [.lit (.int .u64 1), .lit (.int .u64 10), .lit (.int .u64 100), .lit (.int .u64 1000), .lit (.int .u64 10000), .lit (.int .u64 100000), .lit (.int .u64 1000000), .lit (.int .u64 10000000), .lit (.int .u64 100000000), .lit (.int .u64 1000000000), .lit (.int .u64 10000000000), .lit (.int .u64 100000000000), .lit (.int .u64 1000000000000), .lit (.int .u64 10000000000000), .lit (.int .u64 100000000000000), .lit (.int .u64 1000000000000000), .lit (.int .u64 10000000000000000), .lit (.int .u64 100000000000000000), .lit (.int .u64 1000000000000000000), .lit (.int .u64 10000000000000000000)]

/-- 'mullionlaw13.LiftTells': WHATEVER THE INPUT: true; the input reads as it did. -/
def liftTellsSpec : ChangeSpec := { name := "liftTells", fn := fun _ => fun
  | [d1, d2, d3, d4] => { results := [.lit (.bool true)], args := [d1, d2, d3, d4] }
  | _ => none }
def liftTellsRow : OpenClaim := { program := "ytfndnjmnakdglaagreatdoor", sum := "0b3b205b1a720915f44102c9736f8c066b0bb1483fcd5473dafdaf4d93176387", func := "mullion/mullionlaw13.LiftTells", spec := "liftTells", inPlace := ["internal/bytealg.IndexByteString", "internal/abi.NoEscape", "internal/bytealg.MakeNoZero", "internal/bytealg.abigen_runtime_cmpstring"], unfollowed := true, recurses := true, named := ["internal/strconv.uint64pow10", "math/bits.deBruijn32tab", "math/bits.deBruijn64tab"], loops := true, apart := false, laid := [("math/bits.deBruijn32tab", laid_math_bits_deBruijn32tab), ("math/bits.deBruijn64tab", laid_math_bits_deBruijn64tab), ("internal/strconv.uint64pow10", laid_internal_strconv_uint64pow10)] }
def LiftTellsSaid : Prop := liftTellsRow.holds Tryz.pinned (OpenSpec.ofChange liftTellsSpec)

/-- ITS FALSE NEIGHBOUR: 'it returns false'. Refute it at one input. -/
def liftTellsWrong : ChangeSpec := { name := "liftTells", fn := fun _ => fun
  | [d1, d2, d3, d4] => { results := [.lit (.bool false)], args := [d1, d2, d3, d4] }
  | _ => none }
def LiftTellsWrongFalsely : Prop := liftTellsRow.holds Tryz.pinned (OpenSpec.ofChange liftTellsWrong)

/-- 'mullionlaw13.LiftTrue': WHATEVER THE INPUT: true; the input reads as it did. -/
def liftTrueSpec : ChangeSpec := { name := "liftTrue", fn := fun _ => fun
  | [d1, d2] => { results := [.lit (.bool true)], args := [d1, d2] }
  | _ => none }
def liftTrueRow : OpenClaim := { program := "ytfndnjmnakdglaagreatdoor", sum := "0b3b205b1a720915f44102c9736f8c066b0bb1483fcd5473dafdaf4d93176387", func := "mullion/mullionlaw13.LiftTrue", spec := "liftTrue", inPlace := ["internal/bytealg.IndexByteString", "internal/abi.NoEscape", "internal/bytealg.MakeNoZero", "internal/bytealg.abigen_runtime_cmpstring"], unfollowed := true, recurses := true, named := ["internal/strconv.uint64pow10", "math/bits.deBruijn32tab", "math/bits.deBruijn64tab"], loops := true, apart := false, laid := [("math/bits.deBruijn32tab", laid_math_bits_deBruijn32tab), ("math/bits.deBruijn64tab", laid_math_bits_deBruijn64tab), ("internal/strconv.uint64pow10", laid_internal_strconv_uint64pow10)] }
def LiftTrueSaid : Prop := liftTrueRow.holds Tryz.pinned (OpenSpec.ofChange liftTrueSpec)

/-- ITS FALSE NEIGHBOUR: 'it returns false'. Refute it at one input. -/
def liftTrueWrong : ChangeSpec := { name := "liftTrue", fn := fun _ => fun
  | [d1, d2] => { results := [.lit (.bool false)], args := [d1, d2] }
  | _ => none }
def LiftTrueWrongFalsely : Prop := liftTrueRow.holds Tryz.pinned (OpenSpec.ofChange liftTrueWrong)

/-- 'mullionlaw13.LiftBack': WHATEVER THE INPUT: true; the input reads as it did. -/
def liftBackSpec : ChangeSpec := { name := "liftBack", fn := fun _ => fun
  | [d1, d2, d3] => { results := [.lit (.bool true)], args := [d1, d2, d3] }
  | _ => none }
def liftBackRow : OpenClaim := { program := "ytfndnjmnakdglaagreatdoor", sum := "0b3b205b1a720915f44102c9736f8c066b0bb1483fcd5473dafdaf4d93176387", func := "mullion/mullionlaw13.LiftBack", spec := "liftBack", inPlace := ["internal/bytealg.IndexByteString", "internal/abi.NoEscape", "internal/bytealg.MakeNoZero", "internal/bytealg.abigen_runtime_cmpstring"], unfollowed := true, recurses := true, named := ["internal/strconv.uint64pow10", "math/bits.deBruijn32tab", "math/bits.deBruijn64tab"], loops := true, apart := false, laid := [("math/bits.deBruijn32tab", laid_math_bits_deBruijn32tab), ("math/bits.deBruijn64tab", laid_math_bits_deBruijn64tab), ("internal/strconv.uint64pow10", laid_internal_strconv_uint64pow10)] }
def LiftBackSaid : Prop := liftBackRow.holds Tryz.pinned (OpenSpec.ofChange liftBackSpec)

/-- ITS FALSE NEIGHBOUR: 'it returns false'. Refute it at one input. -/
def liftBackWrong : ChangeSpec := { name := "liftBack", fn := fun _ => fun
  | [d1, d2, d3] => { results := [.lit (.bool false)], args := [d1, d2, d3] }
  | _ => none }
def LiftBackWrongFalsely : Prop := liftBackRow.holds Tryz.pinned (OpenSpec.ofChange liftBackWrong)

/-- 'mullionlaw13.LiftAbs': WHATEVER THE INPUT: true; the input reads as it did. -/
def liftAbsSpec : ChangeSpec := { name := "liftAbs", fn := fun _ => fun
  | [d1, d2] => { results := [.lit (.bool true)], args := [d1, d2] }
  | _ => none }
def liftAbsRow : OpenClaim := { program := "ytfndnjmnakdglaagreatdoor", sum := "0b3b205b1a720915f44102c9736f8c066b0bb1483fcd5473dafdaf4d93176387", func := "mullion/mullionlaw13.LiftAbs", spec := "liftAbs", inPlace := ["internal/bytealg.IndexByteString", "internal/abi.NoEscape", "internal/bytealg.MakeNoZero", "internal/bytealg.abigen_runtime_cmpstring"], unfollowed := true, recurses := true, named := ["internal/strconv.uint64pow10", "math/bits.deBruijn32tab", "math/bits.deBruijn64tab"], apart := false, laid := [("math/bits.deBruijn32tab", laid_math_bits_deBruijn32tab), ("math/bits.deBruijn64tab", laid_math_bits_deBruijn64tab), ("internal/strconv.uint64pow10", laid_internal_strconv_uint64pow10)] }
def LiftAbsSaid : Prop := liftAbsRow.holds Tryz.pinned (OpenSpec.ofChange liftAbsSpec)

/-- ITS FALSE NEIGHBOUR: 'it returns false'. Refute it at one input. -/
def liftAbsWrong : ChangeSpec := { name := "liftAbs", fn := fun _ => fun
  | [d1, d2] => { results := [.lit (.bool false)], args := [d1, d2] }
  | _ => none }
def LiftAbsWrongFalsely : Prop := liftAbsRow.holds Tryz.pinned (OpenSpec.ofChange liftAbsWrong)

/-- 'mullionlaw13.LiftStays': WHATEVER THE INPUT: true; the input reads as it did. -/
def liftStaysSpec : ChangeSpec := { name := "liftStays", fn := fun _ => fun
  | [d1, d2] => { results := [.lit (.bool true)], args := [d1, d2] }
  | _ => none }
def liftStaysRow : OpenClaim := { program := "ytfndnjmnakdglaagreatdoor", sum := "0b3b205b1a720915f44102c9736f8c066b0bb1483fcd5473dafdaf4d93176387", func := "mullion/mullionlaw13.LiftStays", spec := "liftStays", inPlace := ["internal/bytealg.IndexByteString", "internal/abi.NoEscape", "internal/bytealg.MakeNoZero", "internal/bytealg.abigen_runtime_cmpstring"], unfollowed := true, recurses := true, named := ["internal/strconv.uint64pow10", "math/bits.deBruijn32tab", "math/bits.deBruijn64tab"], loops := true, apart := false, laid := [("math/bits.deBruijn32tab", laid_math_bits_deBruijn32tab), ("math/bits.deBruijn64tab", laid_math_bits_deBruijn64tab), ("internal/strconv.uint64pow10", laid_internal_strconv_uint64pow10)] }
def LiftStaysSaid : Prop := liftStaysRow.holds Tryz.pinned (OpenSpec.ofChange liftStaysSpec)

/-- ITS FALSE NEIGHBOUR: 'it returns false'. Refute it at one input. -/
def liftStaysWrong : ChangeSpec := { name := "liftStays", fn := fun _ => fun
  | [d1, d2] => { results := [.lit (.bool false)], args := [d1, d2] }
  | _ => none }
def LiftStaysWrongFalsely : Prop := liftStaysRow.holds Tryz.pinned (OpenSpec.ofChange liftStaysWrong)

/-- 'mullionlaw14.DivsTell': WHATEVER THE INPUT: true; the input reads as it did. -/
def divsTellSpec : ChangeSpec := { name := "divsTell", fn := fun _ => fun
  | [d1, d2, d3] => { results := [.lit (.bool true)], args := [d1, d2, d3] }
  | _ => none }
def divsTellRow : OpenClaim := { program := "ytfndnjmnakdglaagreatdoor", sum := "0b3b205b1a720915f44102c9736f8c066b0bb1483fcd5473dafdaf4d93176387", func := "mullion/mullionlaw14.DivsTell", spec := "divsTell", inPlace := ["internal/bytealg.IndexByteString", "internal/abi.NoEscape", "internal/bytealg.MakeNoZero", "internal/bytealg.abigen_runtime_cmpstring"], unfollowed := true, recurses := true, named := ["internal/strconv.uint64pow10", "math/bits.deBruijn32tab", "math/bits.deBruijn64tab"], loops := true, apart := false, laid := [("math/bits.deBruijn32tab", laid_math_bits_deBruijn32tab), ("math/bits.deBruijn64tab", laid_math_bits_deBruijn64tab), ("internal/strconv.uint64pow10", laid_internal_strconv_uint64pow10)] }
def DivsTellSaid : Prop := divsTellRow.holds Tryz.pinned (OpenSpec.ofChange divsTellSpec)

/-- ITS FALSE NEIGHBOUR: 'it returns false'. Refute it at one input. -/
def divsTellWrong : ChangeSpec := { name := "divsTell", fn := fun _ => fun
  | [d1, d2, d3] => { results := [.lit (.bool false)], args := [d1, d2, d3] }
  | _ => none }
def DivsTellWrongFalsely : Prop := divsTellRow.holds Tryz.pinned (OpenSpec.ofChange divsTellWrong)

/-- 'mullionlaw14.DivsTrue': WHATEVER THE INPUT: true; the input reads as it did. -/
def divsTrueSpec : ChangeSpec := { name := "divsTrue", fn := fun _ => fun
  | [d1, d2] => { results := [.lit (.bool true)], args := [d1, d2] }
  | _ => none }
def divsTrueRow : OpenClaim := { program := "ytfndnjmnakdglaagreatdoor", sum := "0b3b205b1a720915f44102c9736f8c066b0bb1483fcd5473dafdaf4d93176387", func := "mullion/mullionlaw14.DivsTrue", spec := "divsTrue", inPlace := ["internal/bytealg.IndexByteString", "internal/abi.NoEscape", "internal/bytealg.MakeNoZero", "internal/bytealg.abigen_runtime_cmpstring"], unfollowed := true, recurses := true, named := ["internal/strconv.uint64pow10", "math/bits.deBruijn32tab", "math/bits.deBruijn64tab"], loops := true, apart := false, laid := [("math/bits.deBruijn32tab", laid_math_bits_deBruijn32tab), ("math/bits.deBruijn64tab", laid_math_bits_deBruijn64tab), ("internal/strconv.uint64pow10", laid_internal_strconv_uint64pow10)] }
def DivsTrueSaid : Prop := divsTrueRow.holds Tryz.pinned (OpenSpec.ofChange divsTrueSpec)

/-- ITS FALSE NEIGHBOUR: 'it returns false'. Refute it at one input. -/
def divsTrueWrong : ChangeSpec := { name := "divsTrue", fn := fun _ => fun
  | [d1, d2] => { results := [.lit (.bool false)], args := [d1, d2] }
  | _ => none }
def DivsTrueWrongFalsely : Prop := divsTrueRow.holds Tryz.pinned (OpenSpec.ofChange divsTrueWrong)

/-- 'mullionlaw14.DivsOnly': WHATEVER THE INPUT: true; the input reads as it did. -/
def divsOnlySpec : ChangeSpec := { name := "divsOnly", fn := fun _ => fun
  | [d1, d2, d3] => { results := [.lit (.bool true)], args := [d1, d2, d3] }
  | _ => none }
def divsOnlyRow : OpenClaim := { program := "ytfndnjmnakdglaagreatdoor", sum := "0b3b205b1a720915f44102c9736f8c066b0bb1483fcd5473dafdaf4d93176387", func := "mullion/mullionlaw14.DivsOnly", spec := "divsOnly", inPlace := ["internal/bytealg.IndexByteString", "internal/abi.NoEscape", "internal/bytealg.MakeNoZero", "internal/bytealg.abigen_runtime_cmpstring"], unfollowed := true, recurses := true, named := ["internal/strconv.uint64pow10", "math/bits.deBruijn32tab", "math/bits.deBruijn64tab"], loops := true, apart := false, laid := [("math/bits.deBruijn32tab", laid_math_bits_deBruijn32tab), ("math/bits.deBruijn64tab", laid_math_bits_deBruijn64tab), ("internal/strconv.uint64pow10", laid_internal_strconv_uint64pow10)] }
def DivsOnlySaid : Prop := divsOnlyRow.holds Tryz.pinned (OpenSpec.ofChange divsOnlySpec)

/-- ITS FALSE NEIGHBOUR: 'it returns false'. Refute it at one input. -/
def divsOnlyWrong : ChangeSpec := { name := "divsOnly", fn := fun _ => fun
  | [d1, d2, d3] => { results := [.lit (.bool false)], args := [d1, d2, d3] }
  | _ => none }
def DivsOnlyWrongFalsely : Prop := divsOnlyRow.holds Tryz.pinned (OpenSpec.ofChange divsOnlyWrong)

/-- 'mullionlaw14.DivsDigits': WHATEVER THE INPUT: true; the input reads as it did. -/
def divsDigitsSpec : ChangeSpec := { name := "divsDigits", fn := fun _ => fun
  | [d1, d2] => { results := [.lit (.bool true)], args := [d1, d2] }
  | _ => none }
def divsDigitsRow : OpenClaim := { program := "ytfndnjmnakdglaagreatdoor", sum := "0b3b205b1a720915f44102c9736f8c066b0bb1483fcd5473dafdaf4d93176387", func := "mullion/mullionlaw14.DivsDigits", spec := "divsDigits", inPlace := ["internal/bytealg.IndexByteString", "internal/abi.NoEscape", "internal/bytealg.MakeNoZero", "internal/bytealg.abigen_runtime_cmpstring"], unfollowed := true, recurses := true, named := ["internal/strconv.uint64pow10", "math/bits.deBruijn32tab", "math/bits.deBruijn64tab"], apart := false, laid := [("math/bits.deBruijn32tab", laid_math_bits_deBruijn32tab), ("math/bits.deBruijn64tab", laid_math_bits_deBruijn64tab), ("internal/strconv.uint64pow10", laid_internal_strconv_uint64pow10)] }
def DivsDigitsSaid : Prop := divsDigitsRow.holds Tryz.pinned (OpenSpec.ofChange divsDigitsSpec)

/-- ITS FALSE NEIGHBOUR: 'it returns false'. Refute it at one input. -/
def divsDigitsWrong : ChangeSpec := { name := "divsDigits", fn := fun _ => fun
  | [d1, d2] => { results := [.lit (.bool false)], args := [d1, d2] }
  | _ => none }
def DivsDigitsWrongFalsely : Prop := divsDigitsRow.holds Tryz.pinned (OpenSpec.ofChange divsDigitsWrong)

/-- 'mullionlaw14.DivsStays': WHATEVER THE INPUT: true; the input reads as it did. -/
def divsStaysSpec : ChangeSpec := { name := "divsStays", fn := fun _ => fun
  | [d1, d2] => { results := [.lit (.bool true)], args := [d1, d2] }
  | _ => none }
def divsStaysRow : OpenClaim := { program := "ytfndnjmnakdglaagreatdoor", sum := "0b3b205b1a720915f44102c9736f8c066b0bb1483fcd5473dafdaf4d93176387", func := "mullion/mullionlaw14.DivsStays", spec := "divsStays", inPlace := ["internal/bytealg.IndexByteString", "internal/abi.NoEscape", "internal/bytealg.MakeNoZero", "internal/bytealg.abigen_runtime_cmpstring"], unfollowed := true, recurses := true, named := ["internal/strconv.uint64pow10", "math/bits.deBruijn32tab", "math/bits.deBruijn64tab"], loops := true, apart := false, laid := [("math/bits.deBruijn32tab", laid_math_bits_deBruijn32tab), ("math/bits.deBruijn64tab", laid_math_bits_deBruijn64tab), ("internal/strconv.uint64pow10", laid_internal_strconv_uint64pow10)] }
def DivsStaysSaid : Prop := divsStaysRow.holds Tryz.pinned (OpenSpec.ofChange divsStaysSpec)

/-- ITS FALSE NEIGHBOUR: 'it returns false'. Refute it at one input. -/
def divsStaysWrong : ChangeSpec := { name := "divsStays", fn := fun _ => fun
  | [d1, d2] => { results := [.lit (.bool false)], args := [d1, d2] }
  | _ => none }
def DivsStaysWrongFalsely : Prop := divsStaysRow.holds Tryz.pinned (OpenSpec.ofChange divsStaysWrong)

/- THE SECOND FORM. 'bulk': how many values and letters a reading holds, each counted each time it is reached (what is shared counts as often as it is met; a slice's spare places count too). A statement '..UptoSaid' is the law's where the arguments, and the package variables that the reading takes, are together of bulk at most 1048576: NARROWER than '..Said'. Prove '..Said' where nothing that the law and all that it calls make is longer than what came in: it says more and counts as full. Else prove '..UptoSaid'. A law counts once. -/
mutual
def uptoBulk {H : Type} : DataW H → Nat
  | .lit (.string bytes) => bytes.length + 1
  | .lit _ => 1
  | .nil => 1
  | .ptr d => uptoBulk d + 1
  | .slice elems spare => uptoBulkAll elems + uptoBulkAll spare + 1
  | .agg parts => uptoBulkAll parts + 1
  | .iface _ d => uptoBulk d + 1
  | .map entries => uptoBulkEntries entries + 1
  | .held _ => 1
def uptoBulkAll {H : Type} : List (DataW H) → Nat
  | [] => 0
  | d :: r => uptoBulk d + uptoBulkAll r
def uptoBulkEntries {H : Type} : List (Lit × DataW H) → Nat
  | [] => 0
  | x :: r => uptoBulkEntry x + uptoBulkEntries r
def uptoBulkEntry {H : Type} : Lit × DataW H → Nat
  | (.string bytes, d) => bytes.length + uptoBulk d + 1
  | (_, d) => uptoBulk d + 1
 end
def uptoSmall : (H : Type) → List (DataW H) → Bool := fun _ ds => decide (uptoBulkAll ds ≤ 1048576)
def OpenSpec.upto (s : _root_.Go.ChangeSpec) : _root_.Go.OpenSpec := { _root_.Go.OpenSpec.ofChange s with cond := some uptoSmall }

/-- 'mullionlaw13.LiftTells', WHERE WHAT IT READS IS OF BULK AT MOST 1048576: true; the input reads as it did. -/
def liftTellsUptoRow : OpenClaim := { program := "ytfndnjmnakdglaagreatdoor", sum := "0b3b205b1a720915f44102c9736f8c066b0bb1483fcd5473dafdaf4d93176387", func := "mullion/mullionlaw13.LiftTells", spec := "liftTells", inPlace := ["internal/bytealg.IndexByteString", "internal/abi.NoEscape", "internal/bytealg.MakeNoZero", "internal/bytealg.abigen_runtime_cmpstring"], unfollowed := true, recurses := true, named := ["internal/strconv.uint64pow10", "math/bits.deBruijn32tab", "math/bits.deBruijn64tab"], loops := true, apart := false, laid := [("math/bits.deBruijn32tab", laid_math_bits_deBruijn32tab), ("math/bits.deBruijn64tab", laid_math_bits_deBruijn64tab), ("internal/strconv.uint64pow10", laid_internal_strconv_uint64pow10)], narrowed := true }
def LiftTellsUptoSaid : Prop := liftTellsUptoRow.holds Tryz.pinned (OpenSpec.upto liftTellsSpec)

/-- 'mullionlaw13.LiftTrue', WHERE WHAT IT READS IS OF BULK AT MOST 1048576: true; the input reads as it did. -/
def liftTrueUptoRow : OpenClaim := { program := "ytfndnjmnakdglaagreatdoor", sum := "0b3b205b1a720915f44102c9736f8c066b0bb1483fcd5473dafdaf4d93176387", func := "mullion/mullionlaw13.LiftTrue", spec := "liftTrue", inPlace := ["internal/bytealg.IndexByteString", "internal/abi.NoEscape", "internal/bytealg.MakeNoZero", "internal/bytealg.abigen_runtime_cmpstring"], unfollowed := true, recurses := true, named := ["internal/strconv.uint64pow10", "math/bits.deBruijn32tab", "math/bits.deBruijn64tab"], loops := true, apart := false, laid := [("math/bits.deBruijn32tab", laid_math_bits_deBruijn32tab), ("math/bits.deBruijn64tab", laid_math_bits_deBruijn64tab), ("internal/strconv.uint64pow10", laid_internal_strconv_uint64pow10)], narrowed := true }
def LiftTrueUptoSaid : Prop := liftTrueUptoRow.holds Tryz.pinned (OpenSpec.upto liftTrueSpec)

/-- 'mullionlaw13.LiftBack', WHERE WHAT IT READS IS OF BULK AT MOST 1048576: true; the input reads as it did. -/
def liftBackUptoRow : OpenClaim := { program := "ytfndnjmnakdglaagreatdoor", sum := "0b3b205b1a720915f44102c9736f8c066b0bb1483fcd5473dafdaf4d93176387", func := "mullion/mullionlaw13.LiftBack", spec := "liftBack", inPlace := ["internal/bytealg.IndexByteString", "internal/abi.NoEscape", "internal/bytealg.MakeNoZero", "internal/bytealg.abigen_runtime_cmpstring"], unfollowed := true, recurses := true, named := ["internal/strconv.uint64pow10", "math/bits.deBruijn32tab", "math/bits.deBruijn64tab"], loops := true, apart := false, laid := [("math/bits.deBruijn32tab", laid_math_bits_deBruijn32tab), ("math/bits.deBruijn64tab", laid_math_bits_deBruijn64tab), ("internal/strconv.uint64pow10", laid_internal_strconv_uint64pow10)], narrowed := true }
def LiftBackUptoSaid : Prop := liftBackUptoRow.holds Tryz.pinned (OpenSpec.upto liftBackSpec)

/-- 'mullionlaw13.LiftAbs', WHERE WHAT IT READS IS OF BULK AT MOST 1048576: true; the input reads as it did. -/
def liftAbsUptoRow : OpenClaim := { program := "ytfndnjmnakdglaagreatdoor", sum := "0b3b205b1a720915f44102c9736f8c066b0bb1483fcd5473dafdaf4d93176387", func := "mullion/mullionlaw13.LiftAbs", spec := "liftAbs", inPlace := ["internal/bytealg.IndexByteString", "internal/abi.NoEscape", "internal/bytealg.MakeNoZero", "internal/bytealg.abigen_runtime_cmpstring"], unfollowed := true, recurses := true, named := ["internal/strconv.uint64pow10", "math/bits.deBruijn32tab", "math/bits.deBruijn64tab"], apart := false, laid := [("math/bits.deBruijn32tab", laid_math_bits_deBruijn32tab), ("math/bits.deBruijn64tab", laid_math_bits_deBruijn64tab), ("internal/strconv.uint64pow10", laid_internal_strconv_uint64pow10)], narrowed := true }
def LiftAbsUptoSaid : Prop := liftAbsUptoRow.holds Tryz.pinned (OpenSpec.upto liftAbsSpec)

/-- 'mullionlaw13.LiftStays', WHERE WHAT IT READS IS OF BULK AT MOST 1048576: true; the input reads as it did. -/
def liftStaysUptoRow : OpenClaim := { program := "ytfndnjmnakdglaagreatdoor", sum := "0b3b205b1a720915f44102c9736f8c066b0bb1483fcd5473dafdaf4d93176387", func := "mullion/mullionlaw13.LiftStays", spec := "liftStays", inPlace := ["internal/bytealg.IndexByteString", "internal/abi.NoEscape", "internal/bytealg.MakeNoZero", "internal/bytealg.abigen_runtime_cmpstring"], unfollowed := true, recurses := true, named := ["internal/strconv.uint64pow10", "math/bits.deBruijn32tab", "math/bits.deBruijn64tab"], loops := true, apart := false, laid := [("math/bits.deBruijn32tab", laid_math_bits_deBruijn32tab), ("math/bits.deBruijn64tab", laid_math_bits_deBruijn64tab), ("internal/strconv.uint64pow10", laid_internal_strconv_uint64pow10)], narrowed := true }
def LiftStaysUptoSaid : Prop := liftStaysUptoRow.holds Tryz.pinned (OpenSpec.upto liftStaysSpec)

/-- 'mullionlaw14.DivsTell', WHERE WHAT IT READS IS OF BULK AT MOST 1048576: true; the input reads as it did. -/
def divsTellUptoRow : OpenClaim := { program := "ytfndnjmnakdglaagreatdoor", sum := "0b3b205b1a720915f44102c9736f8c066b0bb1483fcd5473dafdaf4d93176387", func := "mullion/mullionlaw14.DivsTell", spec := "divsTell", inPlace := ["internal/bytealg.IndexByteString", "internal/abi.NoEscape", "internal/bytealg.MakeNoZero", "internal/bytealg.abigen_runtime_cmpstring"], unfollowed := true, recurses := true, named := ["internal/strconv.uint64pow10", "math/bits.deBruijn32tab", "math/bits.deBruijn64tab"], loops := true, apart := false, laid := [("math/bits.deBruijn32tab", laid_math_bits_deBruijn32tab), ("math/bits.deBruijn64tab", laid_math_bits_deBruijn64tab), ("internal/strconv.uint64pow10", laid_internal_strconv_uint64pow10)], narrowed := true }
def DivsTellUptoSaid : Prop := divsTellUptoRow.holds Tryz.pinned (OpenSpec.upto divsTellSpec)

/-- 'mullionlaw14.DivsTrue', WHERE WHAT IT READS IS OF BULK AT MOST 1048576: true; the input reads as it did. -/
def divsTrueUptoRow : OpenClaim := { program := "ytfndnjmnakdglaagreatdoor", sum := "0b3b205b1a720915f44102c9736f8c066b0bb1483fcd5473dafdaf4d93176387", func := "mullion/mullionlaw14.DivsTrue", spec := "divsTrue", inPlace := ["internal/bytealg.IndexByteString", "internal/abi.NoEscape", "internal/bytealg.MakeNoZero", "internal/bytealg.abigen_runtime_cmpstring"], unfollowed := true, recurses := true, named := ["internal/strconv.uint64pow10", "math/bits.deBruijn32tab", "math/bits.deBruijn64tab"], loops := true, apart := false, laid := [("math/bits.deBruijn32tab", laid_math_bits_deBruijn32tab), ("math/bits.deBruijn64tab", laid_math_bits_deBruijn64tab), ("internal/strconv.uint64pow10", laid_internal_strconv_uint64pow10)], narrowed := true }
def DivsTrueUptoSaid : Prop := divsTrueUptoRow.holds Tryz.pinned (OpenSpec.upto divsTrueSpec)

/-- 'mullionlaw14.DivsOnly', WHERE WHAT IT READS IS OF BULK AT MOST 1048576: true; the input reads as it did. -/
def divsOnlyUptoRow : OpenClaim := { program := "ytfndnjmnakdglaagreatdoor", sum := "0b3b205b1a720915f44102c9736f8c066b0bb1483fcd5473dafdaf4d93176387", func := "mullion/mullionlaw14.DivsOnly", spec := "divsOnly", inPlace := ["internal/bytealg.IndexByteString", "internal/abi.NoEscape", "internal/bytealg.MakeNoZero", "internal/bytealg.abigen_runtime_cmpstring"], unfollowed := true, recurses := true, named := ["internal/strconv.uint64pow10", "math/bits.deBruijn32tab", "math/bits.deBruijn64tab"], loops := true, apart := false, laid := [("math/bits.deBruijn32tab", laid_math_bits_deBruijn32tab), ("math/bits.deBruijn64tab", laid_math_bits_deBruijn64tab), ("internal/strconv.uint64pow10", laid_internal_strconv_uint64pow10)], narrowed := true }
def DivsOnlyUptoSaid : Prop := divsOnlyUptoRow.holds Tryz.pinned (OpenSpec.upto divsOnlySpec)

/-- 'mullionlaw14.DivsDigits', WHERE WHAT IT READS IS OF BULK AT MOST 1048576: true; the input reads as it did. -/
def divsDigitsUptoRow : OpenClaim := { program := "ytfndnjmnakdglaagreatdoor", sum := "0b3b205b1a720915f44102c9736f8c066b0bb1483fcd5473dafdaf4d93176387", func := "mullion/mullionlaw14.DivsDigits", spec := "divsDigits", inPlace := ["internal/bytealg.IndexByteString", "internal/abi.NoEscape", "internal/bytealg.MakeNoZero", "internal/bytealg.abigen_runtime_cmpstring"], unfollowed := true, recurses := true, named := ["internal/strconv.uint64pow10", "math/bits.deBruijn32tab", "math/bits.deBruijn64tab"], apart := false, laid := [("math/bits.deBruijn32tab", laid_math_bits_deBruijn32tab), ("math/bits.deBruijn64tab", laid_math_bits_deBruijn64tab), ("internal/strconv.uint64pow10", laid_internal_strconv_uint64pow10)], narrowed := true }
def DivsDigitsUptoSaid : Prop := divsDigitsUptoRow.holds Tryz.pinned (OpenSpec.upto divsDigitsSpec)

/-- 'mullionlaw14.DivsStays', WHERE WHAT IT READS IS OF BULK AT MOST 1048576: true; the input reads as it did. -/
def divsStaysUptoRow : OpenClaim := { program := "ytfndnjmnakdglaagreatdoor", sum := "0b3b205b1a720915f44102c9736f8c066b0bb1483fcd5473dafdaf4d93176387", func := "mullion/mullionlaw14.DivsStays", spec := "divsStays", inPlace := ["internal/bytealg.IndexByteString", "internal/abi.NoEscape", "internal/bytealg.MakeNoZero", "internal/bytealg.abigen_runtime_cmpstring"], unfollowed := true, recurses := true, named := ["internal/strconv.uint64pow10", "math/bits.deBruijn32tab", "math/bits.deBruijn64tab"], loops := true, apart := false, laid := [("math/bits.deBruijn32tab", laid_math_bits_deBruijn32tab), ("math/bits.deBruijn64tab", laid_math_bits_deBruijn64tab), ("internal/strconv.uint64pow10", laid_internal_strconv_uint64pow10)], narrowed := true }
def DivsStaysUptoSaid : Prop := divsStaysUptoRow.holds Tryz.pinned (OpenSpec.upto divsStaysSpec)

end Rows
end Go.Proofs.YtfndnjmnakdglaaGreatDoor
