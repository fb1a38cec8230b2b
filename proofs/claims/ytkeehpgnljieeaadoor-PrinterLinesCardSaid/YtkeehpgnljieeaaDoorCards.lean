/-
  DERIVED. GIVEN WITH THE SEED: THE CARDS: each row of YtkeehpgnljieeaaDoorRows.lean that lists a variable, with what it lists TIED to the program's text (the seventh form; the later family's looks); each row that meets fmt, with fmt's text TOLD by the authors' own Lean function (tested against real Go, not proved from fmt's source: count such statements apart). THE CARD IS WHAT COUNTS. Prove the row's statement (the work); the ties are given (YtkeehpgnljieeaaDoorTie.lean); close each card by the builder's one call (the guide's Derived/Test/ToyasCard.lean, 'card_holds'). Laid BY PROGRAM, IN A SANDBOX (cutbox-door.mjs). By AI agents, Wed Nov 11 2026. No macro, syntax, notation, axiom, sorry.
-/
import Derived.Test.YtkeehpgnljieeaaDoorRows
import GoSem.ClaimSeven
namespace Go.Proofs.YtkeehpgnljieeaaDoor
namespace Rows

/-- THE TIED CARD OF 'ontimelaw14.PrinterLines'. -/
def printerLinesCard : Claim7 := { stood := { row := printerLinesRow, standIns := [], harness := (true, "91267d86b10ccf0713df29ca53de0ef0b5e0f7f1e85b699a025ffbdc97e8f4f1"), looks := false }, kinds := [], alts := [], laidByText := true, laidKinds := [.data, .data, .data, .data, .data], laidTests := true, laidLooks := .later }
def PrinterLinesCardSaid : Prop := Claim7.holds Tryd.pinned (.plain (OpenSpec.ofChange printerLinesSpec)) printerLinesCard

/-- THE SECOND FORM's CARD OF 'ontimelaw14.PrinterLines'. -/
def printerLinesUptoCard : Claim7 := { stood := { row := printerLinesUptoRow, standIns := [], harness := (true, "91267d86b10ccf0713df29ca53de0ef0b5e0f7f1e85b699a025ffbdc97e8f4f1"), looks := false }, kinds := [], alts := [], laidByText := true, laidKinds := [.data, .data, .data, .data, .data], laidTests := true, laidLooks := .later }
def PrinterLinesUptoCardSaid : Prop := Claim7.holds Tryd.pinned (.plain (OpenSpec.upto printerLinesSpec)) printerLinesUptoCard
end Rows
end Go.Proofs.YtkeehpgnljieeaaDoor
