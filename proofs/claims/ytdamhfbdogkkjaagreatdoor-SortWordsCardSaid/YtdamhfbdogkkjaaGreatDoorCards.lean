/-
  DERIVED. GIVEN WITH THE SEED: THE CARDS: each row of YtdamhfbdogkkjaaGreatDoorRows.lean that lists a variable, with what it lists TIED to the program's text (the seventh form; the later family's looks); each row that meets fmt, with fmt's text TOLD by the authors' own Lean function (tested against real Go, not proved from fmt's source: count such statements apart). THE CARD IS WHAT COUNTS. Prove the row's statement (the work); the ties are given (YtdamhfbdogkkjaaGreatDoorTie.lean); close each card by the builder's one call (the guide's Derived/Test/ToyasCard.lean, 'card_holds'). Laid BY PROGRAM, IN A SANDBOX (cutbox-door.mjs). By AI agents, Wed Nov 11 2026. No macro, syntax, notation, axiom, sorry.
-/
import Derived.Test.YtdamhfbdogkkjaaGreatDoorRows
import GoSem.ClaimSeven
namespace Go.Proofs.YtdamhfbdogkkjaaGreatDoor
namespace Rows

/-- THE TIED CARD OF 'mullionlaw11.SortWords'. -/
def sortWordsCard : Claim7 := { stood := { row := sortWordsRow, standIns := [], harness := (true, "c6b173b803f754538896d8899ba5a6d53327d2e8b83d215ef9f8d16f9dd13489"), looks := true }, kinds := [], alts := [], laidByText := true, laidKinds := [.data, .data, .data, .sentinel, .sentinel, .listed, .data], laidTests := true, laidLooks := .later }
def SortWordsCardSaid : Prop := Claim7.holds Tryz.pinned (.plain (OpenSpec.ofChange sortWordsSpec)) sortWordsCard

/-- THE TIED CARD OF 'mullionlaw11.SortShadows'. -/
def sortShadowsCard : Claim7 := { stood := { row := sortShadowsRow, standIns := [], harness := (true, "c6b173b803f754538896d8899ba5a6d53327d2e8b83d215ef9f8d16f9dd13489"), looks := true }, kinds := [], alts := [], laidByText := true, laidKinds := [.data, .data, .data, .sentinel, .sentinel, .listed, .data], laidTests := true, laidLooks := .later }
def SortShadowsCardSaid : Prop := Claim7.holds Tryz.pinned (.plain (OpenSpec.ofChange sortShadowsSpec)) sortShadowsCard

/-- THE TIED CARD OF 'mullionlaw11.SortArgs'. -/
def sortArgsCard : Claim7 := { stood := { row := sortArgsRow, standIns := [], harness := (true, "c6b173b803f754538896d8899ba5a6d53327d2e8b83d215ef9f8d16f9dd13489"), looks := true }, kinds := [], alts := [], laidByText := true, laidKinds := [.data, .data, .data, .sentinel, .sentinel, .listed, .data], laidTests := true, laidLooks := .later }
def SortArgsCardSaid : Prop := Claim7.holds Tryz.pinned (.plain (OpenSpec.ofChange sortArgsSpec)) sortArgsCard

/-- THE SECOND FORM's CARD OF 'mullionlaw11.SortWords'. -/
def sortWordsUptoCard : Claim7 := { stood := { row := sortWordsUptoRow, standIns := [], harness := (true, "c6b173b803f754538896d8899ba5a6d53327d2e8b83d215ef9f8d16f9dd13489"), looks := true }, kinds := [], alts := [], laidByText := true, laidKinds := [.data, .data, .data, .sentinel, .sentinel, .listed, .data], laidTests := true, laidLooks := .later }
def SortWordsUptoCardSaid : Prop := Claim7.holds Tryz.pinned (.plain (OpenSpec.upto sortWordsSpec)) sortWordsUptoCard

/-- THE SECOND FORM's CARD OF 'mullionlaw11.SortShadows'. -/
def sortShadowsUptoCard : Claim7 := { stood := { row := sortShadowsUptoRow, standIns := [], harness := (true, "c6b173b803f754538896d8899ba5a6d53327d2e8b83d215ef9f8d16f9dd13489"), looks := true }, kinds := [], alts := [], laidByText := true, laidKinds := [.data, .data, .data, .sentinel, .sentinel, .listed, .data], laidTests := true, laidLooks := .later }
def SortShadowsUptoCardSaid : Prop := Claim7.holds Tryz.pinned (.plain (OpenSpec.upto sortShadowsSpec)) sortShadowsUptoCard

/-- THE SECOND FORM's CARD OF 'mullionlaw11.SortArgs'. -/
def sortArgsUptoCard : Claim7 := { stood := { row := sortArgsUptoRow, standIns := [], harness := (true, "c6b173b803f754538896d8899ba5a6d53327d2e8b83d215ef9f8d16f9dd13489"), looks := true }, kinds := [], alts := [], laidByText := true, laidKinds := [.data, .data, .data, .sentinel, .sentinel, .listed, .data], laidTests := true, laidLooks := .later }
def SortArgsUptoCardSaid : Prop := Claim7.holds Tryz.pinned (.plain (OpenSpec.upto sortArgsSpec)) sortArgsUptoCard
end Rows
end Go.Proofs.YtdamhfbdogkkjaaGreatDoor
