/-
  DERIVED. GIVEN WITH THE SEED: THE CARDS: each row of YtglaecalbamnkaaGreatDoorRows.lean that lists a variable, with what it lists TIED to the program's text (the seventh form; the later family's looks); each row that meets fmt, with fmt's text TOLD by the authors' own Lean function (tested against real Go, not proved from fmt's source: count such statements apart). THE CARD IS WHAT COUNTS. Prove the row's statement (the work); the ties are given (YtglaecalbamnkaaGreatDoorTie.lean); close each card by the builder's one call (the guide's Derived/Test/ToyasCard.lean, 'card_holds'). Laid BY PROGRAM, IN A SANDBOX (cutbox-door.mjs). By AI agents, Wed Nov 11 2026. No macro, syntax, notation, axiom, sorry.
-/
import Derived.Test.YtglaecalbamnkaaGreatDoorRows
import GoSem.ClaimSeven
namespace Go.Proofs.YtglaecalbamnkaaGreatDoor
namespace Rows

/-- THE TIED CARD OF 'ontimelaw13.ParserPrograms'. -/
def parserProgramsCard : Claim7 := { stood := { row := parserProgramsRow, standIns := [], harness := (true, "706df48d1c7b838be3b0d703075e4c852ffd73b0a4af8cb0b2196017344adb7a"), looks := false }, kinds := [], alts := [], laidByText := true, laidKinds := [.data, .data, .data, .pinned], laidTests := true, laidLooks := .later }
def ParserProgramsCardSaid : Prop := Claim7.holds Tryz.pinned (.plain (OpenSpec.ofChange parserProgramsSpec)) parserProgramsCard

/-- THE SECOND FORM's CARD OF 'ontimelaw13.ParserPrograms'. -/
def parserProgramsUptoCard : Claim7 := { stood := { row := parserProgramsUptoRow, standIns := [], harness := (true, "706df48d1c7b838be3b0d703075e4c852ffd73b0a4af8cb0b2196017344adb7a"), looks := false }, kinds := [], alts := [], laidByText := true, laidKinds := [.data, .data, .data, .pinned], laidTests := true, laidLooks := .later }
def ParserProgramsUptoCardSaid : Prop := Claim7.holds Tryz.pinned (.plain (OpenSpec.upto parserProgramsSpec)) parserProgramsUptoCard
end Rows
end Go.Proofs.YtglaecalbamnkaaGreatDoor
