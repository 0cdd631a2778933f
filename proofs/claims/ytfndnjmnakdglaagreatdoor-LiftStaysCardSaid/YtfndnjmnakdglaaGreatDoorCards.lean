/-
  DERIVED. GIVEN WITH THE SEED: THE CARDS: each row of YtfndnjmnakdglaaGreatDoorRows.lean that lists a variable, with what it lists TIED to the program's text (the seventh form; the later family's looks); each row that meets fmt, with fmt's text TOLD by the authors' own Lean function (tested against real Go, not proved from fmt's source: count such statements apart). THE CARD IS WHAT COUNTS. Prove the row's statement (the work); the ties are given (YtfndnjmnakdglaaGreatDoorTie.lean); close each card by the builder's one call (the guide's Derived/Test/ToyasCard.lean, 'card_holds'). Laid BY PROGRAM, IN A SANDBOX (cutbox-door.mjs). By AI agents, Wed Nov 11 2026. No macro, syntax, notation, axiom, sorry.
-/
import Derived.Test.YtfndnjmnakdglaaGreatDoorRows
import GoSem.ClaimSeven
namespace Go.Proofs.YtfndnjmnakdglaaGreatDoor
namespace Rows

/-- THE TIED CARD OF 'mullionlaw13.LiftTells'. -/
def liftTellsCard : Claim7 := { stood := { row := liftTellsRow, standIns := [], harness := (true, "ba8935c9ebb46c29e973df191e6e4c17d4467f80b68f1ec7cc8eb819c494023a"), looks := false }, kinds := [], alts := [], laidByText := true, laidKinds := [.data, .data, .data], laidTests := true, laidLooks := .later }
def LiftTellsCardSaid : Prop := Claim7.holds Tryz.pinned (.plain (OpenSpec.ofChange liftTellsSpec)) liftTellsCard

/-- THE TIED CARD OF 'mullionlaw13.LiftTrue'. -/
def liftTrueCard : Claim7 := { stood := { row := liftTrueRow, standIns := [], harness := (true, "ba8935c9ebb46c29e973df191e6e4c17d4467f80b68f1ec7cc8eb819c494023a"), looks := false }, kinds := [], alts := [], laidByText := true, laidKinds := [.data, .data, .data], laidTests := true, laidLooks := .later }
def LiftTrueCardSaid : Prop := Claim7.holds Tryz.pinned (.plain (OpenSpec.ofChange liftTrueSpec)) liftTrueCard

/-- THE TIED CARD OF 'mullionlaw13.LiftBack'. -/
def liftBackCard : Claim7 := { stood := { row := liftBackRow, standIns := [], harness := (true, "ba8935c9ebb46c29e973df191e6e4c17d4467f80b68f1ec7cc8eb819c494023a"), looks := false }, kinds := [], alts := [], laidByText := true, laidKinds := [.data, .data, .data], laidTests := true, laidLooks := .later }
def LiftBackCardSaid : Prop := Claim7.holds Tryz.pinned (.plain (OpenSpec.ofChange liftBackSpec)) liftBackCard

/-- THE TIED CARD OF 'mullionlaw13.LiftAbs'. -/
def liftAbsCard : Claim7 := { stood := { row := liftAbsRow, standIns := [], harness := (true, "ba8935c9ebb46c29e973df191e6e4c17d4467f80b68f1ec7cc8eb819c494023a"), looks := false }, kinds := [], alts := [], laidByText := true, laidKinds := [.data, .data, .data], laidTests := true, laidLooks := .later }
def LiftAbsCardSaid : Prop := Claim7.holds Tryz.pinned (.plain (OpenSpec.ofChange liftAbsSpec)) liftAbsCard

/-- THE TIED CARD OF 'mullionlaw13.LiftStays'. -/
def liftStaysCard : Claim7 := { stood := { row := liftStaysRow, standIns := [], harness := (true, "ba8935c9ebb46c29e973df191e6e4c17d4467f80b68f1ec7cc8eb819c494023a"), looks := false }, kinds := [], alts := [], laidByText := true, laidKinds := [.data, .data, .data], laidTests := true, laidLooks := .later }
def LiftStaysCardSaid : Prop := Claim7.holds Tryz.pinned (.plain (OpenSpec.ofChange liftStaysSpec)) liftStaysCard

/-- THE TIED CARD OF 'mullionlaw14.DivsTell'. -/
def divsTellCard : Claim7 := { stood := { row := divsTellRow, standIns := [], harness := (true, "ba8935c9ebb46c29e973df191e6e4c17d4467f80b68f1ec7cc8eb819c494023a"), looks := false }, kinds := [], alts := [], laidByText := true, laidKinds := [.data, .data, .data], laidTests := true, laidLooks := .later }
def DivsTellCardSaid : Prop := Claim7.holds Tryz.pinned (.plain (OpenSpec.ofChange divsTellSpec)) divsTellCard

/-- THE TIED CARD OF 'mullionlaw14.DivsTrue'. -/
def divsTrueCard : Claim7 := { stood := { row := divsTrueRow, standIns := [], harness := (true, "ba8935c9ebb46c29e973df191e6e4c17d4467f80b68f1ec7cc8eb819c494023a"), looks := false }, kinds := [], alts := [], laidByText := true, laidKinds := [.data, .data, .data], laidTests := true, laidLooks := .later }
def DivsTrueCardSaid : Prop := Claim7.holds Tryz.pinned (.plain (OpenSpec.ofChange divsTrueSpec)) divsTrueCard

/-- THE TIED CARD OF 'mullionlaw14.DivsOnly'. -/
def divsOnlyCard : Claim7 := { stood := { row := divsOnlyRow, standIns := [], harness := (true, "ba8935c9ebb46c29e973df191e6e4c17d4467f80b68f1ec7cc8eb819c494023a"), looks := false }, kinds := [], alts := [], laidByText := true, laidKinds := [.data, .data, .data], laidTests := true, laidLooks := .later }
def DivsOnlyCardSaid : Prop := Claim7.holds Tryz.pinned (.plain (OpenSpec.ofChange divsOnlySpec)) divsOnlyCard

/-- THE TIED CARD OF 'mullionlaw14.DivsDigits'. -/
def divsDigitsCard : Claim7 := { stood := { row := divsDigitsRow, standIns := [], harness := (true, "ba8935c9ebb46c29e973df191e6e4c17d4467f80b68f1ec7cc8eb819c494023a"), looks := false }, kinds := [], alts := [], laidByText := true, laidKinds := [.data, .data, .data], laidTests := true, laidLooks := .later }
def DivsDigitsCardSaid : Prop := Claim7.holds Tryz.pinned (.plain (OpenSpec.ofChange divsDigitsSpec)) divsDigitsCard

/-- THE TIED CARD OF 'mullionlaw14.DivsStays'. -/
def divsStaysCard : Claim7 := { stood := { row := divsStaysRow, standIns := [], harness := (true, "ba8935c9ebb46c29e973df191e6e4c17d4467f80b68f1ec7cc8eb819c494023a"), looks := false }, kinds := [], alts := [], laidByText := true, laidKinds := [.data, .data, .data], laidTests := true, laidLooks := .later }
def DivsStaysCardSaid : Prop := Claim7.holds Tryz.pinned (.plain (OpenSpec.ofChange divsStaysSpec)) divsStaysCard

/-- THE SECOND FORM's CARD OF 'mullionlaw13.LiftTells'. -/
def liftTellsUptoCard : Claim7 := { stood := { row := liftTellsUptoRow, standIns := [], harness := (true, "ba8935c9ebb46c29e973df191e6e4c17d4467f80b68f1ec7cc8eb819c494023a"), looks := false }, kinds := [], alts := [], laidByText := true, laidKinds := [.data, .data, .data], laidTests := true, laidLooks := .later }
def LiftTellsUptoCardSaid : Prop := Claim7.holds Tryz.pinned (.plain (OpenSpec.upto liftTellsSpec)) liftTellsUptoCard

/-- THE SECOND FORM's CARD OF 'mullionlaw13.LiftTrue'. -/
def liftTrueUptoCard : Claim7 := { stood := { row := liftTrueUptoRow, standIns := [], harness := (true, "ba8935c9ebb46c29e973df191e6e4c17d4467f80b68f1ec7cc8eb819c494023a"), looks := false }, kinds := [], alts := [], laidByText := true, laidKinds := [.data, .data, .data], laidTests := true, laidLooks := .later }
def LiftTrueUptoCardSaid : Prop := Claim7.holds Tryz.pinned (.plain (OpenSpec.upto liftTrueSpec)) liftTrueUptoCard

/-- THE SECOND FORM's CARD OF 'mullionlaw13.LiftBack'. -/
def liftBackUptoCard : Claim7 := { stood := { row := liftBackUptoRow, standIns := [], harness := (true, "ba8935c9ebb46c29e973df191e6e4c17d4467f80b68f1ec7cc8eb819c494023a"), looks := false }, kinds := [], alts := [], laidByText := true, laidKinds := [.data, .data, .data], laidTests := true, laidLooks := .later }
def LiftBackUptoCardSaid : Prop := Claim7.holds Tryz.pinned (.plain (OpenSpec.upto liftBackSpec)) liftBackUptoCard

/-- THE SECOND FORM's CARD OF 'mullionlaw13.LiftAbs'. -/
def liftAbsUptoCard : Claim7 := { stood := { row := liftAbsUptoRow, standIns := [], harness := (true, "ba8935c9ebb46c29e973df191e6e4c17d4467f80b68f1ec7cc8eb819c494023a"), looks := false }, kinds := [], alts := [], laidByText := true, laidKinds := [.data, .data, .data], laidTests := true, laidLooks := .later }
def LiftAbsUptoCardSaid : Prop := Claim7.holds Tryz.pinned (.plain (OpenSpec.upto liftAbsSpec)) liftAbsUptoCard

/-- THE SECOND FORM's CARD OF 'mullionlaw13.LiftStays'. -/
def liftStaysUptoCard : Claim7 := { stood := { row := liftStaysUptoRow, standIns := [], harness := (true, "ba8935c9ebb46c29e973df191e6e4c17d4467f80b68f1ec7cc8eb819c494023a"), looks := false }, kinds := [], alts := [], laidByText := true, laidKinds := [.data, .data, .data], laidTests := true, laidLooks := .later }
def LiftStaysUptoCardSaid : Prop := Claim7.holds Tryz.pinned (.plain (OpenSpec.upto liftStaysSpec)) liftStaysUptoCard

/-- THE SECOND FORM's CARD OF 'mullionlaw14.DivsTell'. -/
def divsTellUptoCard : Claim7 := { stood := { row := divsTellUptoRow, standIns := [], harness := (true, "ba8935c9ebb46c29e973df191e6e4c17d4467f80b68f1ec7cc8eb819c494023a"), looks := false }, kinds := [], alts := [], laidByText := true, laidKinds := [.data, .data, .data], laidTests := true, laidLooks := .later }
def DivsTellUptoCardSaid : Prop := Claim7.holds Tryz.pinned (.plain (OpenSpec.upto divsTellSpec)) divsTellUptoCard

/-- THE SECOND FORM's CARD OF 'mullionlaw14.DivsTrue'. -/
def divsTrueUptoCard : Claim7 := { stood := { row := divsTrueUptoRow, standIns := [], harness := (true, "ba8935c9ebb46c29e973df191e6e4c17d4467f80b68f1ec7cc8eb819c494023a"), looks := false }, kinds := [], alts := [], laidByText := true, laidKinds := [.data, .data, .data], laidTests := true, laidLooks := .later }
def DivsTrueUptoCardSaid : Prop := Claim7.holds Tryz.pinned (.plain (OpenSpec.upto divsTrueSpec)) divsTrueUptoCard

/-- THE SECOND FORM's CARD OF 'mullionlaw14.DivsOnly'. -/
def divsOnlyUptoCard : Claim7 := { stood := { row := divsOnlyUptoRow, standIns := [], harness := (true, "ba8935c9ebb46c29e973df191e6e4c17d4467f80b68f1ec7cc8eb819c494023a"), looks := false }, kinds := [], alts := [], laidByText := true, laidKinds := [.data, .data, .data], laidTests := true, laidLooks := .later }
def DivsOnlyUptoCardSaid : Prop := Claim7.holds Tryz.pinned (.plain (OpenSpec.upto divsOnlySpec)) divsOnlyUptoCard

/-- THE SECOND FORM's CARD OF 'mullionlaw14.DivsDigits'. -/
def divsDigitsUptoCard : Claim7 := { stood := { row := divsDigitsUptoRow, standIns := [], harness := (true, "ba8935c9ebb46c29e973df191e6e4c17d4467f80b68f1ec7cc8eb819c494023a"), looks := false }, kinds := [], alts := [], laidByText := true, laidKinds := [.data, .data, .data], laidTests := true, laidLooks := .later }
def DivsDigitsUptoCardSaid : Prop := Claim7.holds Tryz.pinned (.plain (OpenSpec.upto divsDigitsSpec)) divsDigitsUptoCard

/-- THE SECOND FORM's CARD OF 'mullionlaw14.DivsStays'. -/
def divsStaysUptoCard : Claim7 := { stood := { row := divsStaysUptoRow, standIns := [], harness := (true, "ba8935c9ebb46c29e973df191e6e4c17d4467f80b68f1ec7cc8eb819c494023a"), looks := false }, kinds := [], alts := [], laidByText := true, laidKinds := [.data, .data, .data], laidTests := true, laidLooks := .later }
def DivsStaysUptoCardSaid : Prop := Claim7.holds Tryz.pinned (.plain (OpenSpec.upto divsStaysSpec)) divsStaysUptoCard
end Rows
end Go.Proofs.YtfndnjmnakdglaaGreatDoor
