/-
  NARROWER THAN 'FOR EVERY INPUT', by the rows' own cells (each row's printed sentence says how): TermSound: loops.
  DERIVED. THE GIVEN ROWS OF THIS SEAT. 3 by the template 'for every input the law returns true; each argument reads behind the call as it read before'; 0 by the template 'total and deterministic' (their statements: YtjnejkganejdbaaTotals.lean).
  GIVEN WITH THE SEED: the statements are not yours to turn. If you find one false, say at which input.
  Laid BY PROGRAM, IN A SANDBOX (cutbox-rows.mjs): the forced cells as the released guide's own fill.sh prints them over the translation d829f7348638d1a5… (all of the seat's roots in one cut). By AI agents, Wed Nov 11 2026. No macro, syntax, notation, axiom, sorry.
-/
import Derived.Test.YtjnejkganejdbaaChecked
import GoSem.Claim
import GoSem.ClaimJoined
import GoSem.ClaimMapViews
import Derived.JoinedTies
import Derived.KernelRfl
namespace Go.Proofs.Ytjnejkganejdbaa
/- THE CELL 'sum', in the pinned program and in every row, IS THE sha256 OF THE DUMP (.gsa) THAT YtjnejkganejdbaaProg.lean LOADS. Nothing in Lean hashes anything: it is a label: what it is worth is what the hold of that sum in a sandbox is worth. -/
noncomputable def Try.pinned : Pinned := { name := "ytjnejkganejdbaa", sum := "d829f7348638d1a594a2bea6c7b56ac4ff21b7379fcd57fa4ba233a044807e2c", checked := Try.checked }
namespace Rows
def none {H : Type} : Left H := { results := [], args := [] }

/-- 'mullionlaw10.TermSound': WHATEVER THE INPUT: true; the input reads as it did. -/
def termSoundSpec : ChangeSpec := { name := "termSound", fn := fun _ => fun
  | [d1, d2, d3] => { results := [.lit (.bool true)], args := [d1, d2, d3] }
  | _ => none }
def termSoundRow : OpenClaim := { program := "ytjnejkganejdbaa", sum := "d829f7348638d1a594a2bea6c7b56ac4ff21b7379fcd57fa4ba233a044807e2c", func := "mullion/mullionlaw10.TermSound", spec := "termSound", inPlace := ["internal/bytealg.IndexByteString", "internal/bytealg.abigen_runtime_cmpstring"], unfollowed := true, recurses := true, loops := true, apart := false }
def TermSoundSaid : Prop := termSoundRow.holds Try.pinned (OpenSpec.ofChange termSoundSpec)

/-- ITS FALSE NEIGHBOUR: 'it returns false'. Refute it at one input. -/
def termSoundWrong : ChangeSpec := { name := "termSound", fn := fun _ => fun
  | [d1, d2, d3] => { results := [.lit (.bool false)], args := [d1, d2, d3] }
  | _ => none }
def TermSoundWrongFalsely : Prop := termSoundRow.holds Try.pinned (OpenSpec.ofChange termSoundWrong)

/-- 'mullionlaw10.TermGreat': WHATEVER THE INPUT: true; the input reads as it did. -/
def termGreatSpec : ChangeSpec := { name := "termGreat", fn := fun _ => fun
  | [d1, d2] => { results := [.lit (.bool true)], args := [d1, d2] }
  | _ => none }
def termGreatRow : OpenClaim := { program := "ytjnejkganejdbaa", sum := "d829f7348638d1a594a2bea6c7b56ac4ff21b7379fcd57fa4ba233a044807e2c", func := "mullion/mullionlaw10.TermGreat", spec := "termGreat", inPlace := ["internal/bytealg.IndexByteString", "internal/bytealg.abigen_runtime_cmpstring"], unfollowed := true, recurses := true, apart := false }
def TermGreatSaid : Prop := termGreatRow.holds Try.pinned (OpenSpec.ofChange termGreatSpec)

/-- ITS FALSE NEIGHBOUR: 'it returns false'. Refute it at one input. -/
def termGreatWrong : ChangeSpec := { name := "termGreat", fn := fun _ => fun
  | [d1, d2] => { results := [.lit (.bool false)], args := [d1, d2] }
  | _ => none }
def TermGreatWrongFalsely : Prop := termGreatRow.holds Try.pinned (OpenSpec.ofChange termGreatWrong)

/-- 'mullionlaw10.TermNames': WHATEVER THE INPUT: true; the input reads as it did. -/
def termNamesSpec : ChangeSpec := { name := "termNames", fn := fun _ => fun
  | [d1, d2] => { results := [.lit (.bool true)], args := [d1, d2] }
  | _ => none }
def termNamesRow : OpenClaim := { program := "ytjnejkganejdbaa", sum := "d829f7348638d1a594a2bea6c7b56ac4ff21b7379fcd57fa4ba233a044807e2c", func := "mullion/mullionlaw10.TermNames", spec := "termNames", inPlace := ["internal/bytealg.IndexByteString", "internal/bytealg.abigen_runtime_cmpstring"], unfollowed := true, recurses := true, apart := false }
def TermNamesSaid : Prop := termNamesRow.holds Try.pinned (OpenSpec.ofChange termNamesSpec)

/-- ITS FALSE NEIGHBOUR: 'it returns false'. Refute it at one input. -/
def termNamesWrong : ChangeSpec := { name := "termNames", fn := fun _ => fun
  | [d1, d2] => { results := [.lit (.bool false)], args := [d1, d2] }
  | _ => none }
def TermNamesWrongFalsely : Prop := termNamesRow.holds Try.pinned (OpenSpec.ofChange termNamesWrong)

/- THE SECOND FORM. 'bulk': how many values and letters a reading holds, each counted each time it is reached (what is shared counts as often as it is met; a slice's spare places count too). A statement '..UptoSaid' is the law's where the arguments, and the package variables that the reading takes, are together of bulk at most 1048576: NARROWER than '..Said'. Prove '..Said' where nothing that the law and all that it calls make is longer than what came in: it says more and counts as full. Else prove '..UptoSaid'. A law counts once. -/
mutual
def uptoBulk {H : Type} : DataW H → Nat
  | .lit (.string bytes) => bytes.length + 1
  | .lit _ => 1
  | .nil => 1
  | .ptr d => uptoBulk d + 1
  | .slice elems spare => uptoBulkAll elems + uptoBulkAll spare + 1
  | .agg parts => uptoBulkAll parts + 1
  | .iface _ d => uptoBulk d + 1
  | .map entries => uptoBulkEntries entries + 1
  | .held _ => 1
def uptoBulkAll {H : Type} : List (DataW H) → Nat
  | [] => 0
  | d :: r => uptoBulk d + uptoBulkAll r
def uptoBulkEntries {H : Type} : List (Lit × DataW H) → Nat
  | [] => 0
  | x :: r => uptoBulkEntry x + uptoBulkEntries r
def uptoBulkEntry {H : Type} : Lit × DataW H → Nat
  | (.string bytes, d) => bytes.length + uptoBulk d + 1
  | (_, d) => uptoBulk d + 1
 end
def uptoSmall : (H : Type) → List (DataW H) → Bool := fun _ ds => decide (uptoBulkAll ds ≤ 1048576)
def OpenSpec.upto (s : _root_.Go.ChangeSpec) : _root_.Go.OpenSpec := { _root_.Go.OpenSpec.ofChange s with cond := some uptoSmall }

/-- 'mullionlaw10.TermSound', WHERE WHAT IT READS IS OF BULK AT MOST 1048576: true; the input reads as it did. -/
def termSoundUptoRow : OpenClaim := { program := "ytjnejkganejdbaa", sum := "d829f7348638d1a594a2bea6c7b56ac4ff21b7379fcd57fa4ba233a044807e2c", func := "mullion/mullionlaw10.TermSound", spec := "termSound", inPlace := ["internal/bytealg.IndexByteString", "internal/bytealg.abigen_runtime_cmpstring"], unfollowed := true, recurses := true, loops := true, apart := false, narrowed := true }
def TermSoundUptoSaid : Prop := termSoundUptoRow.holds Try.pinned (OpenSpec.upto termSoundSpec)

/-- 'mullionlaw10.TermGreat', WHERE WHAT IT READS IS OF BULK AT MOST 1048576: true; the input reads as it did. -/
def termGreatUptoRow : OpenClaim := { program := "ytjnejkganejdbaa", sum := "d829f7348638d1a594a2bea6c7b56ac4ff21b7379fcd57fa4ba233a044807e2c", func := "mullion/mullionlaw10.TermGreat", spec := "termGreat", inPlace := ["internal/bytealg.IndexByteString", "internal/bytealg.abigen_runtime_cmpstring"], unfollowed := true, recurses := true, apart := false, narrowed := true }
def TermGreatUptoSaid : Prop := termGreatUptoRow.holds Try.pinned (OpenSpec.upto termGreatSpec)

/-- 'mullionlaw10.TermNames', WHERE WHAT IT READS IS OF BULK AT MOST 1048576: true; the input reads as it did. -/
def termNamesUptoRow : OpenClaim := { program := "ytjnejkganejdbaa", sum := "d829f7348638d1a594a2bea6c7b56ac4ff21b7379fcd57fa4ba233a044807e2c", func := "mullion/mullionlaw10.TermNames", spec := "termNames", inPlace := ["internal/bytealg.IndexByteString", "internal/bytealg.abigen_runtime_cmpstring"], unfollowed := true, recurses := true, apart := false, narrowed := true }
def TermNamesUptoSaid : Prop := termNamesUptoRow.holds Try.pinned (OpenSpec.upto termNamesSpec)

end Rows
end Go.Proofs.Ytjnejkganejdbaa
