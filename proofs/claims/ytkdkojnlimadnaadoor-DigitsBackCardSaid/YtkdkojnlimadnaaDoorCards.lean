/-
  DERIVED. GIVEN WITH THE SEED: THE CARDS: each row of YtkdkojnlimadnaaDoorRows.lean that lists a variable, with what it lists TIED to the program's text (the seventh form; the later family's looks); each row that meets fmt, with fmt's text TOLD by the authors' own Lean function (tested against real Go, not proved from fmt's source: count such statements apart). THE CARD IS WHAT COUNTS. Prove the row's statement (the work); the ties are given (YtkdkojnlimadnaaDoorTie.lean); close each card by the builder's one call (the guide's Derived/Test/ToyasCard.lean, 'card_holds'). Laid BY PROGRAM, IN A SANDBOX (cutbox-door.mjs). By AI agents, Wed Nov 11 2026. No macro, syntax, notation, axiom, sorry.
-/
import Derived.Test.YtkdkojnlimadnaaDoorRows
import GoSem.ClaimSeven
namespace Go.Proofs.YtkdkojnlimadnaaDoor
namespace Rows

/-- THE TIED CARD OF 'mullionlaw3.DigitsTell'. -/
def digitsTellCard : Claim7 := { stood := { row := digitsTellRow, standIns := [], harness := (true, "74449a1df23bf8042e364c3f532fafc9134eb398d8618cbc9c0031ef9882c8a5"), looks := true }, kinds := [], alts := [], laidByText := true, laidKinds := [.data, .data, .data, .sentinel, .sentinel], laidTests := true, laidLooks := .later }
def DigitsTellCardSaid : Prop := Claim7.holds Tryd.pinned (.plain (OpenSpec.ofChange digitsTellSpec)) digitsTellCard

/-- THE TIED CARD OF 'mullionlaw3.DigitsBack'. -/
def digitsBackCard : Claim7 := { stood := { row := digitsBackRow, standIns := [], harness := (true, "74449a1df23bf8042e364c3f532fafc9134eb398d8618cbc9c0031ef9882c8a5"), looks := true }, kinds := [], alts := [], laidByText := true, laidKinds := [.data, .data, .data, .sentinel, .sentinel], laidTests := true, laidLooks := .later }
def DigitsBackCardSaid : Prop := Claim7.holds Tryd.pinned (.plain (OpenSpec.ofChange digitsBackSpec)) digitsBackCard

/-- THE TIED CARD OF 'mullionlaw3.DigitsLong'. -/
def digitsLongCard : Claim7 := { stood := { row := digitsLongRow, standIns := [], harness := (true, "74449a1df23bf8042e364c3f532fafc9134eb398d8618cbc9c0031ef9882c8a5"), looks := true }, kinds := [], alts := [], laidByText := true, laidKinds := [.data, .data, .data, .sentinel, .sentinel], laidTests := true, laidLooks := .later }
def DigitsLongCardSaid : Prop := Claim7.holds Tryd.pinned (.plain (OpenSpec.ofChange digitsLongSpec)) digitsLongCard

/-- THE TIED CARD OF 'mullionlaw3.DigitsOrder'. -/
def digitsOrderCard : Claim7 := { stood := { row := digitsOrderRow, standIns := [], harness := (true, "74449a1df23bf8042e364c3f532fafc9134eb398d8618cbc9c0031ef9882c8a5"), looks := true }, kinds := [], alts := [], laidByText := true, laidKinds := [.data, .data, .data, .sentinel, .sentinel], laidTests := true, laidLooks := .later }
def DigitsOrderCardSaid : Prop := Claim7.holds Tryd.pinned (.plain (OpenSpec.ofChange digitsOrderSpec)) digitsOrderCard

/-- THE TIED CARD OF 'mullionlaw3.DigitsSigns'. -/
def digitsSignsCard : Claim7 := { stood := { row := digitsSignsRow, standIns := [], harness := (true, "74449a1df23bf8042e364c3f532fafc9134eb398d8618cbc9c0031ef9882c8a5"), looks := true }, kinds := [], alts := [], laidByText := true, laidKinds := [.data, .data, .data, .sentinel, .sentinel], laidTests := true, laidLooks := .later }
def DigitsSignsCardSaid : Prop := Claim7.holds Tryd.pinned (.plain (OpenSpec.ofChange digitsSignsSpec)) digitsSignsCard

/-- THE SECOND FORM's CARD OF 'mullionlaw3.DigitsTell'. -/
def digitsTellUptoCard : Claim7 := { stood := { row := digitsTellUptoRow, standIns := [], harness := (true, "74449a1df23bf8042e364c3f532fafc9134eb398d8618cbc9c0031ef9882c8a5"), looks := true }, kinds := [], alts := [], laidByText := true, laidKinds := [.data, .data, .data, .sentinel, .sentinel], laidTests := true, laidLooks := .later }
def DigitsTellUptoCardSaid : Prop := Claim7.holds Tryd.pinned (.plain (OpenSpec.upto digitsTellSpec)) digitsTellUptoCard

/-- THE SECOND FORM's CARD OF 'mullionlaw3.DigitsBack'. -/
def digitsBackUptoCard : Claim7 := { stood := { row := digitsBackUptoRow, standIns := [], harness := (true, "74449a1df23bf8042e364c3f532fafc9134eb398d8618cbc9c0031ef9882c8a5"), looks := true }, kinds := [], alts := [], laidByText := true, laidKinds := [.data, .data, .data, .sentinel, .sentinel], laidTests := true, laidLooks := .later }
def DigitsBackUptoCardSaid : Prop := Claim7.holds Tryd.pinned (.plain (OpenSpec.upto digitsBackSpec)) digitsBackUptoCard

/-- THE SECOND FORM's CARD OF 'mullionlaw3.DigitsLong'. -/
def digitsLongUptoCard : Claim7 := { stood := { row := digitsLongUptoRow, standIns := [], harness := (true, "74449a1df23bf8042e364c3f532fafc9134eb398d8618cbc9c0031ef9882c8a5"), looks := true }, kinds := [], alts := [], laidByText := true, laidKinds := [.data, .data, .data, .sentinel, .sentinel], laidTests := true, laidLooks := .later }
def DigitsLongUptoCardSaid : Prop := Claim7.holds Tryd.pinned (.plain (OpenSpec.upto digitsLongSpec)) digitsLongUptoCard

/-- THE SECOND FORM's CARD OF 'mullionlaw3.DigitsOrder'. -/
def digitsOrderUptoCard : Claim7 := { stood := { row := digitsOrderUptoRow, standIns := [], harness := (true, "74449a1df23bf8042e364c3f532fafc9134eb398d8618cbc9c0031ef9882c8a5"), looks := true }, kinds := [], alts := [], laidByText := true, laidKinds := [.data, .data, .data, .sentinel, .sentinel], laidTests := true, laidLooks := .later }
def DigitsOrderUptoCardSaid : Prop := Claim7.holds Tryd.pinned (.plain (OpenSpec.upto digitsOrderSpec)) digitsOrderUptoCard

/-- THE SECOND FORM's CARD OF 'mullionlaw3.DigitsSigns'. -/
def digitsSignsUptoCard : Claim7 := { stood := { row := digitsSignsUptoRow, standIns := [], harness := (true, "74449a1df23bf8042e364c3f532fafc9134eb398d8618cbc9c0031ef9882c8a5"), looks := true }, kinds := [], alts := [], laidByText := true, laidKinds := [.data, .data, .data, .sentinel, .sentinel], laidTests := true, laidLooks := .later }
def DigitsSignsUptoCardSaid : Prop := Claim7.holds Tryd.pinned (.plain (OpenSpec.upto digitsSignsSpec)) digitsSignsUptoCard
end Rows
end Go.Proofs.YtkdkojnlimadnaaDoor
