/-
  NARROWER THAN 'FOR EVERY INPUT', by the rows' own cells (each row's printed sentence says how): TermMakes: loops · TermTells: loops · TermLinear: loops.
  DERIVED. THE GIVEN ROWS OF THIS SEAT. 3 by the template 'for every input the law returns true; each argument reads behind the call as it read before'; 0 by the template 'total and deterministic' (their statements: YtjnejkganejdbaaGreatTotals.lean).
  GIVEN WITH THE SEED: the statements are not yours to turn. If you find one false, say at which input.
  Laid BY PROGRAM, IN A SANDBOX (cutbox-rows.mjs): the forced cells as the released guide's own fill.sh prints them over the translation 51eda8166043217a… (all of the seat's roots in one cut). By AI agents, Wed Nov 11 2026. No macro, syntax, notation, axiom, sorry.
-/
import Derived.Test.YtjnejkganejdbaaGreatChecked
import GoSem.Claim
import GoSem.ClaimJoined
import GoSem.ClaimMapViews
import Derived.JoinedTies
import Derived.KernelRfl
namespace Go.Proofs.YtjnejkganejdbaaGreat
/- THE CELL 'sum', in the pinned program and in every row, IS THE sha256 OF THE DUMP (.gsa) THAT YtjnejkganejdbaaGreatProg.lean LOADS. Nothing in Lean hashes anything: it is a label: what it is worth is what the hold of that sum in a sandbox is worth. -/
noncomputable def Tryz.pinned : Pinned := { name := "ytjnejkganejdbaagreat", sum := "51eda8166043217ad853bf1a2026f955677653d1af27a3d22f32a6bef4b72b72", checked := Tryz.checked }
namespace Rows
def none {H : Type} : Left H := { results := [], args := [] }

/-- 'mullionlaw10.TermMakes': WHATEVER THE INPUT: true; the input reads as it did. -/
def termMakesSpec : ChangeSpec := { name := "termMakes", fn := fun _ => fun
  | [d1, d2, d3, d4, d5] => { results := [.lit (.bool true)], args := [d1, d2, d3, d4, d5] }
  | _ => none }
def termMakesRow : OpenClaim := { program := "ytjnejkganejdbaagreat", sum := "51eda8166043217ad853bf1a2026f955677653d1af27a3d22f32a6bef4b72b72", func := "mullion/mullionlaw10.TermMakes", spec := "termMakes", inPlace := ["internal/bytealg.IndexByteString", "internal/bytealg.abigen_runtime_cmpstring"], unfollowed := true, recurses := true, loops := true, apart := false }
def TermMakesSaid : Prop := termMakesRow.holds Tryz.pinned (OpenSpec.ofChange termMakesSpec)

/-- ITS FALSE NEIGHBOUR: 'it returns false'. Refute it at one input. -/
def termMakesWrong : ChangeSpec := { name := "termMakes", fn := fun _ => fun
  | [d1, d2, d3, d4, d5] => { results := [.lit (.bool false)], args := [d1, d2, d3, d4, d5] }
  | _ => none }
def TermMakesWrongFalsely : Prop := termMakesRow.holds Tryz.pinned (OpenSpec.ofChange termMakesWrong)

/-- 'mullionlaw10.TermTells': WHATEVER THE INPUT: true; the input reads as it did. -/
def termTellsSpec : ChangeSpec := { name := "termTells", fn := fun _ => fun
  | [d1, d2] => { results := [.lit (.bool true)], args := [d1, d2] }
  | _ => none }
def termTellsRow : OpenClaim := { program := "ytjnejkganejdbaagreat", sum := "51eda8166043217ad853bf1a2026f955677653d1af27a3d22f32a6bef4b72b72", func := "mullion/mullionlaw10.TermTells", spec := "termTells", inPlace := ["internal/bytealg.IndexByteString", "internal/bytealg.abigen_runtime_cmpstring"], unfollowed := true, recurses := true, loops := true, apart := false }
def TermTellsSaid : Prop := termTellsRow.holds Tryz.pinned (OpenSpec.ofChange termTellsSpec)

/-- ITS FALSE NEIGHBOUR: 'it returns false'. Refute it at one input. -/
def termTellsWrong : ChangeSpec := { name := "termTells", fn := fun _ => fun
  | [d1, d2] => { results := [.lit (.bool false)], args := [d1, d2] }
  | _ => none }
def TermTellsWrongFalsely : Prop := termTellsRow.holds Tryz.pinned (OpenSpec.ofChange termTellsWrong)

/-- 'mullionlaw10.TermLinear': WHATEVER THE INPUT: true; the input reads as it did. -/
def termLinearSpec : ChangeSpec := { name := "termLinear", fn := fun _ => fun
  | [d1, d2, d3] => { results := [.lit (.bool true)], args := [d1, d2, d3] }
  | _ => none }
def termLinearRow : OpenClaim := { program := "ytjnejkganejdbaagreat", sum := "51eda8166043217ad853bf1a2026f955677653d1af27a3d22f32a6bef4b72b72", func := "mullion/mullionlaw10.TermLinear", spec := "termLinear", inPlace := ["internal/bytealg.IndexByteString", "internal/bytealg.abigen_runtime_cmpstring"], unfollowed := true, recurses := true, loops := true, apart := false }
def TermLinearSaid : Prop := termLinearRow.holds Tryz.pinned (OpenSpec.ofChange termLinearSpec)

/-- ITS FALSE NEIGHBOUR: 'it returns false'. Refute it at one input. -/
def termLinearWrong : ChangeSpec := { name := "termLinear", fn := fun _ => fun
  | [d1, d2, d3] => { results := [.lit (.bool false)], args := [d1, d2, d3] }
  | _ => none }
def TermLinearWrongFalsely : Prop := termLinearRow.holds Tryz.pinned (OpenSpec.ofChange termLinearWrong)

/- THE SECOND FORM. 'bulk': how many values and letters a reading holds, each counted each time it is reached (what is shared counts as often as it is met; a slice's spare places count too). A statement '..UptoSaid' is the law's where the arguments, and the package variables that the reading takes, are together of bulk at most 1048576: NARROWER than '..Said'. Prove '..Said' where nothing that the law and all that it calls make is longer than what came in: it says more and counts as full. Else prove '..UptoSaid'. A law counts once. -/
mutual
def uptoBulk {H : Type} : DataW H → Nat
  | .lit (.string bytes) => bytes.length + 1
  | .lit _ => 1
  | .nil => 1
  | .ptr d => uptoBulk d + 1
  | .slice elems spare => uptoBulkAll elems + uptoBulkAll spare + 1
  | .agg parts => uptoBulkAll parts + 1
  | .iface _ d => uptoBulk d + 1
  | .map entries => uptoBulkEntries entries + 1
  | .held _ => 1
def uptoBulkAll {H : Type} : List (DataW H) → Nat
  | [] => 0
  | d :: r => uptoBulk d + uptoBulkAll r
def uptoBulkEntries {H : Type} : List (Lit × DataW H) → Nat
  | [] => 0
  | x :: r => uptoBulkEntry x + uptoBulkEntries r
def uptoBulkEntry {H : Type} : Lit × DataW H → Nat
  | (.string bytes, d) => bytes.length + uptoBulk d + 1
  | (_, d) => uptoBulk d + 1
 end
def uptoSmall : (H : Type) → List (DataW H) → Bool := fun _ ds => decide (uptoBulkAll ds ≤ 1048576)
def OpenSpec.upto (s : _root_.Go.ChangeSpec) : _root_.Go.OpenSpec := { _root_.Go.OpenSpec.ofChange s with cond := some uptoSmall }

/-- 'mullionlaw10.TermMakes', WHERE WHAT IT READS IS OF BULK AT MOST 1048576: true; the input reads as it did. -/
def termMakesUptoRow : OpenClaim := { program := "ytjnejkganejdbaagreat", sum := "51eda8166043217ad853bf1a2026f955677653d1af27a3d22f32a6bef4b72b72", func := "mullion/mullionlaw10.TermMakes", spec := "termMakes", inPlace := ["internal/bytealg.IndexByteString", "internal/bytealg.abigen_runtime_cmpstring"], unfollowed := true, recurses := true, loops := true, apart := false, narrowed := true }
def TermMakesUptoSaid : Prop := termMakesUptoRow.holds Tryz.pinned (OpenSpec.upto termMakesSpec)

/-- 'mullionlaw10.TermTells', WHERE WHAT IT READS IS OF BULK AT MOST 1048576: true; the input reads as it did. -/
def termTellsUptoRow : OpenClaim := { program := "ytjnejkganejdbaagreat", sum := "51eda8166043217ad853bf1a2026f955677653d1af27a3d22f32a6bef4b72b72", func := "mullion/mullionlaw10.TermTells", spec := "termTells", inPlace := ["internal/bytealg.IndexByteString", "internal/bytealg.abigen_runtime_cmpstring"], unfollowed := true, recurses := true, loops := true, apart := false, narrowed := true }
def TermTellsUptoSaid : Prop := termTellsUptoRow.holds Tryz.pinned (OpenSpec.upto termTellsSpec)

/-- 'mullionlaw10.TermLinear', WHERE WHAT IT READS IS OF BULK AT MOST 1048576: true; the input reads as it did. -/
def termLinearUptoRow : OpenClaim := { program := "ytjnejkganejdbaagreat", sum := "51eda8166043217ad853bf1a2026f955677653d1af27a3d22f32a6bef4b72b72", func := "mullion/mullionlaw10.TermLinear", spec := "termLinear", inPlace := ["internal/bytealg.IndexByteString", "internal/bytealg.abigen_runtime_cmpstring"], unfollowed := true, recurses := true, loops := true, apart := false, narrowed := true }
def TermLinearUptoSaid : Prop := termLinearUptoRow.holds Tryz.pinned (OpenSpec.upto termLinearSpec)

end Rows
end Go.Proofs.YtjnejkganejdbaaGreat
