/-
  DERIVED. GIVEN WITH THE SEED: THE CARDS: each row of YtaaaicpjlaeiiaaDoorRows.lean that lists a variable, with what it lists TIED to the program's text (the seventh form; the later family's looks); each row that meets fmt, with fmt's text TOLD by the authors' own Lean function (tested against real Go, not proved from fmt's source: count such statements apart). THE CARD IS WHAT COUNTS. Prove the row's statement (the work); the ties are given (YtaaaicpjlaeiiaaDoorTie.lean); close each card by the builder's one call (the guide's Derived/Test/ToyasCard.lean, 'card_holds'). Laid BY PROGRAM, IN A SANDBOX (cutbox-door.mjs). By AI agents, Wed Nov 11 2026. No macro, syntax, notation, axiom, sorry.
-/
import Derived.Test.YtaaaicpjlaeiiaaDoorRows
import GoSem.ClaimSeven
namespace Go.Proofs.YtaaaicpjlaeiiaaDoor
namespace Rows

/-- THE TIED CARD OF 'ontimelaw14.PrinterParts'. -/
def printerPartsCard : Claim7 := { stood := { row := printerPartsRow, standIns := [], harness := (true, "97571564706a37d2ad2eed67f7e25f3507840a014c94d48ecad98ffeae03d320"), looks := false }, kinds := [], alts := [], laidByText := true, laidKinds := [.data, .data, .data, .data, .data], laidTests := true, laidLooks := .later }
def PrinterPartsCardSaid : Prop := Claim7.holds Tryd.pinned (.plain (OpenSpec.ofChange printerPartsSpec)) printerPartsCard

/-- THE TIED CARD OF 'ontimelaw14.PrinterLines'. -/
def printerLinesCard : Claim7 := { stood := { row := printerLinesRow, standIns := [], harness := (true, "97571564706a37d2ad2eed67f7e25f3507840a014c94d48ecad98ffeae03d320"), looks := false }, kinds := [], alts := [], laidByText := true, laidKinds := [.data, .data, .data, .data, .data], laidTests := true, laidLooks := .later }
def PrinterLinesCardSaid : Prop := Claim7.holds Tryd.pinned (.plain (OpenSpec.ofChange printerLinesSpec)) printerLinesCard

/-- THE TIED CARD OF 'ontimelaw14.PrinterPrograms'. -/
def printerProgramsCard : Claim7 := { stood := { row := printerProgramsRow, standIns := [], harness := (true, "97571564706a37d2ad2eed67f7e25f3507840a014c94d48ecad98ffeae03d320"), looks := false }, kinds := [], alts := [], laidByText := true, laidKinds := [.data, .data, .data, .data, .data], laidTests := true, laidLooks := .later }
def PrinterProgramsCardSaid : Prop := Claim7.holds Tryd.pinned (.plain (OpenSpec.ofChange printerProgramsSpec)) printerProgramsCard

/-- THE TIED CARD OF 'ontimelaw13.ParserLevels'. -/
def parserLevelsCard : Claim7 := { stood := { row := parserLevelsRow, standIns := [], harness := (true, "97571564706a37d2ad2eed67f7e25f3507840a014c94d48ecad98ffeae03d320"), looks := false }, kinds := [], alts := [], laidByText := true, laidKinds := [.data, .data, .data, .pinned], laidTests := true, laidLooks := .later }
def ParserLevelsCardSaid : Prop := Claim7.holds Tryd.pinned (.plain (OpenSpec.ofChange parserLevelsSpec)) parserLevelsCard

/-- THE TIED CARD OF 'ontimelaw13.ParserNumbers'. -/
def parserNumbersCard : Claim7 := { stood := { row := parserNumbersRow, standIns := [], harness := (true, "97571564706a37d2ad2eed67f7e25f3507840a014c94d48ecad98ffeae03d320"), looks := false }, kinds := [], alts := [], laidByText := true, laidKinds := [.data, .data, .data, .pinned], laidTests := true, laidLooks := .later }
def ParserNumbersCardSaid : Prop := Claim7.holds Tryd.pinned (.plain (OpenSpec.ofChange parserNumbersSpec)) parserNumbersCard

/-- THE TIED CARD OF 'ontimelaw13.ParserLimits'. -/
def parserLimitsCard : Claim7 := { stood := { row := parserLimitsRow, standIns := [], harness := (true, "97571564706a37d2ad2eed67f7e25f3507840a014c94d48ecad98ffeae03d320"), looks := false }, kinds := [], alts := [], laidByText := true, laidKinds := [.data, .data, .data, .pinned], laidTests := true, laidLooks := .later }
def ParserLimitsCardSaid : Prop := Claim7.holds Tryd.pinned (.plain (OpenSpec.ofChange parserLimitsSpec)) parserLimitsCard

/-- THE TIED CARD OF 'ontimelaw13.ParserParens'. -/
def parserParensCard : Claim7 := { stood := { row := parserParensRow, standIns := [], harness := (true, "97571564706a37d2ad2eed67f7e25f3507840a014c94d48ecad98ffeae03d320"), looks := false }, kinds := [], alts := [], laidByText := true, laidKinds := [.data, .data, .data, .pinned], laidTests := true, laidLooks := .later }
def ParserParensCardSaid : Prop := Claim7.holds Tryd.pinned (.plain (OpenSpec.ofChange parserParensSpec)) parserParensCard

/-- THE TIED CARD OF 'ontimelaw13.ParserLayout'. -/
def parserLayoutCard : Claim7 := { stood := { row := parserLayoutRow, standIns := [], harness := (true, "97571564706a37d2ad2eed67f7e25f3507840a014c94d48ecad98ffeae03d320"), looks := false }, kinds := [], alts := [], laidByText := true, laidKinds := [.data, .data, .data, .pinned], laidTests := true, laidLooks := .later }
def ParserLayoutCardSaid : Prop := Claim7.holds Tryd.pinned (.plain (OpenSpec.ofChange parserLayoutSpec)) parserLayoutCard

/-- THE TIED CARD OF 'ontimelaw13.ParserCuts'. -/
def parserCutsCard : Claim7 := { stood := { row := parserCutsRow, standIns := [], harness := (true, "97571564706a37d2ad2eed67f7e25f3507840a014c94d48ecad98ffeae03d320"), looks := false }, kinds := [], alts := [], laidByText := true, laidKinds := [.data, .data, .data, .pinned], laidTests := true, laidLooks := .later }
def ParserCutsCardSaid : Prop := Claim7.holds Tryd.pinned (.plain (OpenSpec.ofChange parserCutsSpec)) parserCutsCard

/-- THE TIED CARD OF 'ontimelaw13.ParserValid'. -/
def parserValidCard : Claim7 := { stood := { row := parserValidRow, standIns := [], harness := (true, "97571564706a37d2ad2eed67f7e25f3507840a014c94d48ecad98ffeae03d320"), looks := false }, kinds := [], alts := [], laidByText := true, laidKinds := [.data, .data, .data, .pinned], laidTests := true, laidLooks := .later }
def ParserValidCardSaid : Prop := Claim7.holds Tryd.pinned (.plain (OpenSpec.ofChange parserValidSpec)) parserValidCard

/-- THE SECOND FORM's CARD OF 'ontimelaw14.PrinterParts'. -/
def printerPartsUptoCard : Claim7 := { stood := { row := printerPartsUptoRow, standIns := [], harness := (true, "97571564706a37d2ad2eed67f7e25f3507840a014c94d48ecad98ffeae03d320"), looks := false }, kinds := [], alts := [], laidByText := true, laidKinds := [.data, .data, .data, .data, .data], laidTests := true, laidLooks := .later }
def PrinterPartsUptoCardSaid : Prop := Claim7.holds Tryd.pinned (.plain (OpenSpec.upto printerPartsSpec)) printerPartsUptoCard

/-- THE SECOND FORM's CARD OF 'ontimelaw14.PrinterLines'. -/
def printerLinesUptoCard : Claim7 := { stood := { row := printerLinesUptoRow, standIns := [], harness := (true, "97571564706a37d2ad2eed67f7e25f3507840a014c94d48ecad98ffeae03d320"), looks := false }, kinds := [], alts := [], laidByText := true, laidKinds := [.data, .data, .data, .data, .data], laidTests := true, laidLooks := .later }
def PrinterLinesUptoCardSaid : Prop := Claim7.holds Tryd.pinned (.plain (OpenSpec.upto printerLinesSpec)) printerLinesUptoCard

/-- THE SECOND FORM's CARD OF 'ontimelaw14.PrinterPrograms'. -/
def printerProgramsUptoCard : Claim7 := { stood := { row := printerProgramsUptoRow, standIns := [], harness := (true, "97571564706a37d2ad2eed67f7e25f3507840a014c94d48ecad98ffeae03d320"), looks := false }, kinds := [], alts := [], laidByText := true, laidKinds := [.data, .data, .data, .data, .data], laidTests := true, laidLooks := .later }
def PrinterProgramsUptoCardSaid : Prop := Claim7.holds Tryd.pinned (.plain (OpenSpec.upto printerProgramsSpec)) printerProgramsUptoCard

/-- THE SECOND FORM's CARD OF 'ontimelaw13.ParserLevels'. -/
def parserLevelsUptoCard : Claim7 := { stood := { row := parserLevelsUptoRow, standIns := [], harness := (true, "97571564706a37d2ad2eed67f7e25f3507840a014c94d48ecad98ffeae03d320"), looks := false }, kinds := [], alts := [], laidByText := true, laidKinds := [.data, .data, .data, .pinned], laidTests := true, laidLooks := .later }
def ParserLevelsUptoCardSaid : Prop := Claim7.holds Tryd.pinned (.plain (OpenSpec.upto parserLevelsSpec)) parserLevelsUptoCard

/-- THE SECOND FORM's CARD OF 'ontimelaw13.ParserNumbers'. -/
def parserNumbersUptoCard : Claim7 := { stood := { row := parserNumbersUptoRow, standIns := [], harness := (true, "97571564706a37d2ad2eed67f7e25f3507840a014c94d48ecad98ffeae03d320"), looks := false }, kinds := [], alts := [], laidByText := true, laidKinds := [.data, .data, .data, .pinned], laidTests := true, laidLooks := .later }
def ParserNumbersUptoCardSaid : Prop := Claim7.holds Tryd.pinned (.plain (OpenSpec.upto parserNumbersSpec)) parserNumbersUptoCard

/-- THE SECOND FORM's CARD OF 'ontimelaw13.ParserLimits'. -/
def parserLimitsUptoCard : Claim7 := { stood := { row := parserLimitsUptoRow, standIns := [], harness := (true, "97571564706a37d2ad2eed67f7e25f3507840a014c94d48ecad98ffeae03d320"), looks := false }, kinds := [], alts := [], laidByText := true, laidKinds := [.data, .data, .data, .pinned], laidTests := true, laidLooks := .later }
def ParserLimitsUptoCardSaid : Prop := Claim7.holds Tryd.pinned (.plain (OpenSpec.upto parserLimitsSpec)) parserLimitsUptoCard

/-- THE SECOND FORM's CARD OF 'ontimelaw13.ParserParens'. -/
def parserParensUptoCard : Claim7 := { stood := { row := parserParensUptoRow, standIns := [], harness := (true, "97571564706a37d2ad2eed67f7e25f3507840a014c94d48ecad98ffeae03d320"), looks := false }, kinds := [], alts := [], laidByText := true, laidKinds := [.data, .data, .data, .pinned], laidTests := true, laidLooks := .later }
def ParserParensUptoCardSaid : Prop := Claim7.holds Tryd.pinned (.plain (OpenSpec.upto parserParensSpec)) parserParensUptoCard

/-- THE SECOND FORM's CARD OF 'ontimelaw13.ParserLayout'. -/
def parserLayoutUptoCard : Claim7 := { stood := { row := parserLayoutUptoRow, standIns := [], harness := (true, "97571564706a37d2ad2eed67f7e25f3507840a014c94d48ecad98ffeae03d320"), looks := false }, kinds := [], alts := [], laidByText := true, laidKinds := [.data, .data, .data, .pinned], laidTests := true, laidLooks := .later }
def ParserLayoutUptoCardSaid : Prop := Claim7.holds Tryd.pinned (.plain (OpenSpec.upto parserLayoutSpec)) parserLayoutUptoCard

/-- THE SECOND FORM's CARD OF 'ontimelaw13.ParserCuts'. -/
def parserCutsUptoCard : Claim7 := { stood := { row := parserCutsUptoRow, standIns := [], harness := (true, "97571564706a37d2ad2eed67f7e25f3507840a014c94d48ecad98ffeae03d320"), looks := false }, kinds := [], alts := [], laidByText := true, laidKinds := [.data, .data, .data, .pinned], laidTests := true, laidLooks := .later }
def ParserCutsUptoCardSaid : Prop := Claim7.holds Tryd.pinned (.plain (OpenSpec.upto parserCutsSpec)) parserCutsUptoCard

/-- THE SECOND FORM's CARD OF 'ontimelaw13.ParserValid'. -/
def parserValidUptoCard : Claim7 := { stood := { row := parserValidUptoRow, standIns := [], harness := (true, "97571564706a37d2ad2eed67f7e25f3507840a014c94d48ecad98ffeae03d320"), looks := false }, kinds := [], alts := [], laidByText := true, laidKinds := [.data, .data, .data, .pinned], laidTests := true, laidLooks := .later }
def ParserValidUptoCardSaid : Prop := Claim7.holds Tryd.pinned (.plain (OpenSpec.upto parserValidSpec)) parserValidUptoCard
end Rows
end Go.Proofs.YtaaaicpjlaeiiaaDoor
