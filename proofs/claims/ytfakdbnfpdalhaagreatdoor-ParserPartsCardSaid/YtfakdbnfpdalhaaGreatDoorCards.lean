/-
  DERIVED. GIVEN WITH THE SEED: THE CARDS: each row of YtfakdbnfpdalhaaGreatDoorRows.lean that lists a variable, with what it lists TIED to the program's text (the seventh form; the later family's looks); each row that meets fmt, with fmt's text TOLD by the authors' own Lean function (tested against real Go, not proved from fmt's source: count such statements apart). THE CARD IS WHAT COUNTS. Prove the row's statement (the work); the ties are given (YtfakdbnfpdalhaaGreatDoorTie.lean); close each card by the builder's one call (the guide's Derived/Test/ToyasCard.lean, 'card_holds'). Laid BY PROGRAM, IN A SANDBOX (cutbox-door.mjs). By AI agents, Wed Nov 11 2026. No macro, syntax, notation, axiom, sorry.
-/
import Derived.Test.YtfakdbnfpdalhaaGreatDoorRows
import GoSem.ClaimSeven
namespace Go.Proofs.YtfakdbnfpdalhaaGreatDoor
namespace Rows

/-- THE TIED CARD OF 'ontimelaw13.ParserPrograms'. -/
def parserProgramsCard : Claim7 := { stood := { row := parserProgramsRow, standIns := [], harness := (true, "2282790c2d616f87d0e5a50e05519e4fc8622b46696946b6044f7ad445f598bf"), looks := false }, kinds := [], alts := [], laidByText := true, laidKinds := [.data, .data, .data, .pinned], laidTests := true, laidLooks := .later }
def ParserProgramsCardSaid : Prop := Claim7.holds Tryz.pinned (.plain (OpenSpec.ofChange parserProgramsSpec)) parserProgramsCard

/-- THE TIED CARD OF 'ontimelaw13.ParserParts'. -/
def parserPartsCard : Claim7 := { stood := { row := parserPartsRow, standIns := [], harness := (true, "2282790c2d616f87d0e5a50e05519e4fc8622b46696946b6044f7ad445f598bf"), looks := false }, kinds := [], alts := [], laidByText := true, laidKinds := [.data, .data, .data, .pinned], laidTests := true, laidLooks := .later }
def ParserPartsCardSaid : Prop := Claim7.holds Tryz.pinned (.plain (OpenSpec.ofChange parserPartsSpec)) parserPartsCard

/-- THE TIED CARD OF 'ontimelaw14.PrinterBlocks'. -/
def printerBlocksCard : Claim7 := { stood := { row := printerBlocksRow, standIns := [], harness := (true, "2282790c2d616f87d0e5a50e05519e4fc8622b46696946b6044f7ad445f598bf"), looks := false }, kinds := [], alts := [], laidByText := true, laidKinds := [.data, .data, .data, .data, .data, .data, .pinned], laidTests := true, laidLooks := .later }
def PrinterBlocksCardSaid : Prop := Claim7.holds Tryz.pinned (.plain (OpenSpec.ofChange printerBlocksSpec)) printerBlocksCard

/-- THE TIED CARD OF 'ontimelaw14.PrinterRound'. -/
def printerRoundCard : Claim7 := { stood := { row := printerRoundRow, standIns := [], harness := (true, "2282790c2d616f87d0e5a50e05519e4fc8622b46696946b6044f7ad445f598bf"), looks := false }, kinds := [], alts := [], laidByText := true, laidKinds := [.data, .data, .data, .data, .data, .data, .pinned], laidTests := true, laidLooks := .later }
def PrinterRoundCardSaid : Prop := Claim7.holds Tryz.pinned (.plain (OpenSpec.ofChange printerRoundSpec)) printerRoundCard

/-- THE TIED CARD OF 'ontimelaw14.PrinterFixed'. -/
def printerFixedCard : Claim7 := { stood := { row := printerFixedRow, standIns := [], harness := (true, "2282790c2d616f87d0e5a50e05519e4fc8622b46696946b6044f7ad445f598bf"), looks := false }, kinds := [], alts := [], laidByText := true, laidKinds := [.data, .data, .data, .data, .data, .data, .pinned], laidTests := true, laidLooks := .later }
def PrinterFixedCardSaid : Prop := Claim7.holds Tryz.pinned (.plain (OpenSpec.ofChange printerFixedSpec)) printerFixedCard

/-- THE SECOND FORM's CARD OF 'ontimelaw13.ParserPrograms'. -/
def parserProgramsUptoCard : Claim7 := { stood := { row := parserProgramsUptoRow, standIns := [], harness := (true, "2282790c2d616f87d0e5a50e05519e4fc8622b46696946b6044f7ad445f598bf"), looks := false }, kinds := [], alts := [], laidByText := true, laidKinds := [.data, .data, .data, .pinned], laidTests := true, laidLooks := .later }
def ParserProgramsUptoCardSaid : Prop := Claim7.holds Tryz.pinned (.plain (OpenSpec.upto parserProgramsSpec)) parserProgramsUptoCard

/-- THE SECOND FORM's CARD OF 'ontimelaw13.ParserParts'. -/
def parserPartsUptoCard : Claim7 := { stood := { row := parserPartsUptoRow, standIns := [], harness := (true, "2282790c2d616f87d0e5a50e05519e4fc8622b46696946b6044f7ad445f598bf"), looks := false }, kinds := [], alts := [], laidByText := true, laidKinds := [.data, .data, .data, .pinned], laidTests := true, laidLooks := .later }
def ParserPartsUptoCardSaid : Prop := Claim7.holds Tryz.pinned (.plain (OpenSpec.upto parserPartsSpec)) parserPartsUptoCard

/-- THE SECOND FORM's CARD OF 'ontimelaw14.PrinterBlocks'. -/
def printerBlocksUptoCard : Claim7 := { stood := { row := printerBlocksUptoRow, standIns := [], harness := (true, "2282790c2d616f87d0e5a50e05519e4fc8622b46696946b6044f7ad445f598bf"), looks := false }, kinds := [], alts := [], laidByText := true, laidKinds := [.data, .data, .data, .data, .data, .data, .pinned], laidTests := true, laidLooks := .later }
def PrinterBlocksUptoCardSaid : Prop := Claim7.holds Tryz.pinned (.plain (OpenSpec.upto printerBlocksSpec)) printerBlocksUptoCard

/-- THE SECOND FORM's CARD OF 'ontimelaw14.PrinterRound'. -/
def printerRoundUptoCard : Claim7 := { stood := { row := printerRoundUptoRow, standIns := [], harness := (true, "2282790c2d616f87d0e5a50e05519e4fc8622b46696946b6044f7ad445f598bf"), looks := false }, kinds := [], alts := [], laidByText := true, laidKinds := [.data, .data, .data, .data, .data, .data, .pinned], laidTests := true, laidLooks := .later }
def PrinterRoundUptoCardSaid : Prop := Claim7.holds Tryz.pinned (.plain (OpenSpec.upto printerRoundSpec)) printerRoundUptoCard

/-- THE SECOND FORM's CARD OF 'ontimelaw14.PrinterFixed'. -/
def printerFixedUptoCard : Claim7 := { stood := { row := printerFixedUptoRow, standIns := [], harness := (true, "2282790c2d616f87d0e5a50e05519e4fc8622b46696946b6044f7ad445f598bf"), looks := false }, kinds := [], alts := [], laidByText := true, laidKinds := [.data, .data, .data, .data, .data, .data, .pinned], laidTests := true, laidLooks := .later }
def PrinterFixedUptoCardSaid : Prop := Claim7.holds Tryz.pinned (.plain (OpenSpec.upto printerFixedSpec)) printerFixedUptoCard
end Rows
end Go.Proofs.YtfakdbnfpdalhaaGreatDoor
