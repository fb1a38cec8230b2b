/-
  DERIVED. GIVEN WITH THE SEED: THE CARDS: each row of YtfakdbnfpdalhaaDoorRows.lean that lists a variable, with what it lists TIED to the program's text (the seventh form; the later family's looks); each row that meets fmt, with fmt's text TOLD by the authors' own Lean function (tested against real Go, not proved from fmt's source: count such statements apart). THE CARD IS WHAT COUNTS. Prove the row's statement (the work); the ties are given (YtfakdbnfpdalhaaDoorTie.lean); close each card by the builder's one call (the guide's Derived/Test/ToyasCard.lean, 'card_holds'). Laid BY PROGRAM, IN A SANDBOX (cutbox-door.mjs). By AI agents, Wed Nov 11 2026. No macro, syntax, notation, axiom, sorry.
-/
import Derived.Test.YtfakdbnfpdalhaaDoorRows
import GoSem.ClaimSeven
namespace Go.Proofs.YtfakdbnfpdalhaaDoor
namespace Rows

/-- THE TIED CARD OF 'ontimelaw14.PrinterParts'. -/
def printerPartsCard : Claim7 := { stood := { row := printerPartsRow, standIns := [], harness := (true, "1d888b18efcf64fc8f08d167ad66ccd6c90f2b6dcd27d6b28f9a18f642a75063"), looks := false }, kinds := [], alts := [], laidByText := true, laidKinds := [.data, .data, .data, .data, .data], laidTests := true, laidLooks := .later }
def PrinterPartsCardSaid : Prop := Claim7.holds Tryd.pinned (.plain (OpenSpec.ofChange printerPartsSpec)) printerPartsCard

/-- THE TIED CARD OF 'ontimelaw14.PrinterLines'. -/
def printerLinesCard : Claim7 := { stood := { row := printerLinesRow, standIns := [], harness := (true, "1d888b18efcf64fc8f08d167ad66ccd6c90f2b6dcd27d6b28f9a18f642a75063"), looks := false }, kinds := [], alts := [], laidByText := true, laidKinds := [.data, .data, .data, .data, .data], laidTests := true, laidLooks := .later }
def PrinterLinesCardSaid : Prop := Claim7.holds Tryd.pinned (.plain (OpenSpec.ofChange printerLinesSpec)) printerLinesCard

/-- THE TIED CARD OF 'ontimelaw14.PrinterPrograms'. -/
def printerProgramsCard : Claim7 := { stood := { row := printerProgramsRow, standIns := [], harness := (true, "1d888b18efcf64fc8f08d167ad66ccd6c90f2b6dcd27d6b28f9a18f642a75063"), looks := false }, kinds := [], alts := [], laidByText := true, laidKinds := [.data, .data, .data, .data, .data], laidTests := true, laidLooks := .later }
def PrinterProgramsCardSaid : Prop := Claim7.holds Tryd.pinned (.plain (OpenSpec.ofChange printerProgramsSpec)) printerProgramsCard

/-- THE TIED CARD OF 'ontimelaw14.PrinterParens'. -/
def printerParensCard : Claim7 := { stood := { row := printerParensRow, standIns := [], harness := (true, "1d888b18efcf64fc8f08d167ad66ccd6c90f2b6dcd27d6b28f9a18f642a75063"), looks := false }, kinds := [], alts := [], laidByText := true, laidKinds := [.data, .data, .data, .data, .data, .data, .pinned], laidTests := true, laidLooks := .later }
def PrinterParensCardSaid : Prop := Claim7.holds Tryd.pinned (.plain (OpenSpec.ofChange printerParensSpec)) printerParensCard

/-- THE TIED CARD OF 'ontimelaw14.PrinterFewest'. -/
def printerFewestCard : Claim7 := { stood := { row := printerFewestRow, standIns := [], harness := (true, "1d888b18efcf64fc8f08d167ad66ccd6c90f2b6dcd27d6b28f9a18f642a75063"), looks := false }, kinds := [], alts := [], laidByText := true, laidKinds := [.data, .data, .data, .data, .data, .data, .pinned], laidTests := true, laidLooks := .later }
def PrinterFewestCardSaid : Prop := Claim7.holds Tryd.pinned (.plain (OpenSpec.ofChange printerFewestSpec)) printerFewestCard

/-- THE SECOND FORM's CARD OF 'ontimelaw14.PrinterParts'. -/
def printerPartsUptoCard : Claim7 := { stood := { row := printerPartsUptoRow, standIns := [], harness := (true, "1d888b18efcf64fc8f08d167ad66ccd6c90f2b6dcd27d6b28f9a18f642a75063"), looks := false }, kinds := [], alts := [], laidByText := true, laidKinds := [.data, .data, .data, .data, .data], laidTests := true, laidLooks := .later }
def PrinterPartsUptoCardSaid : Prop := Claim7.holds Tryd.pinned (.plain (OpenSpec.upto printerPartsSpec)) printerPartsUptoCard

/-- THE SECOND FORM's CARD OF 'ontimelaw14.PrinterLines'. -/
def printerLinesUptoCard : Claim7 := { stood := { row := printerLinesUptoRow, standIns := [], harness := (true, "1d888b18efcf64fc8f08d167ad66ccd6c90f2b6dcd27d6b28f9a18f642a75063"), looks := false }, kinds := [], alts := [], laidByText := true, laidKinds := [.data, .data, .data, .data, .data], laidTests := true, laidLooks := .later }
def PrinterLinesUptoCardSaid : Prop := Claim7.holds Tryd.pinned (.plain (OpenSpec.upto printerLinesSpec)) printerLinesUptoCard

/-- THE SECOND FORM's CARD OF 'ontimelaw14.PrinterPrograms'. -/
def printerProgramsUptoCard : Claim7 := { stood := { row := printerProgramsUptoRow, standIns := [], harness := (true, "1d888b18efcf64fc8f08d167ad66ccd6c90f2b6dcd27d6b28f9a18f642a75063"), looks := false }, kinds := [], alts := [], laidByText := true, laidKinds := [.data, .data, .data, .data, .data], laidTests := true, laidLooks := .later }
def PrinterProgramsUptoCardSaid : Prop := Claim7.holds Tryd.pinned (.plain (OpenSpec.upto printerProgramsSpec)) printerProgramsUptoCard

/-- THE SECOND FORM's CARD OF 'ontimelaw14.PrinterParens'. -/
def printerParensUptoCard : Claim7 := { stood := { row := printerParensUptoRow, standIns := [], harness := (true, "1d888b18efcf64fc8f08d167ad66ccd6c90f2b6dcd27d6b28f9a18f642a75063"), looks := false }, kinds := [], alts := [], laidByText := true, laidKinds := [.data, .data, .data, .data, .data, .data, .pinned], laidTests := true, laidLooks := .later }
def PrinterParensUptoCardSaid : Prop := Claim7.holds Tryd.pinned (.plain (OpenSpec.upto printerParensSpec)) printerParensUptoCard

/-- THE SECOND FORM's CARD OF 'ontimelaw14.PrinterFewest'. -/
def printerFewestUptoCard : Claim7 := { stood := { row := printerFewestUptoRow, standIns := [], harness := (true, "1d888b18efcf64fc8f08d167ad66ccd6c90f2b6dcd27d6b28f9a18f642a75063"), looks := false }, kinds := [], alts := [], laidByText := true, laidKinds := [.data, .data, .data, .data, .data, .data, .pinned], laidTests := true, laidLooks := .later }
def PrinterFewestUptoCardSaid : Prop := Claim7.holds Tryd.pinned (.plain (OpenSpec.upto printerFewestSpec)) printerFewestUptoCard
end Rows
end Go.Proofs.YtfakdbnfpdalhaaDoor
