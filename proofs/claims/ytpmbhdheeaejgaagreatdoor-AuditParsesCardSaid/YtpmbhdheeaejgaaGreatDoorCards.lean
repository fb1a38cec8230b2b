/-
  DERIVED. GIVEN WITH THE SEED: THE CARDS: each row of YtpmbhdheeaejgaaGreatDoorRows.lean that lists a variable, with what it lists TIED to the program's text (the seventh form; the later family's looks); each row that meets fmt, with fmt's text TOLD by the authors' own Lean function (tested against real Go, not proved from fmt's source: count such statements apart). THE CARD IS WHAT COUNTS. Prove the row's statement (the work); the ties are given (YtpmbhdheeaejgaaGreatDoorTie.lean); close each card by the builder's one call (the guide's Derived/Test/ToyasCard.lean, 'card_holds'). Laid BY PROGRAM, IN A SANDBOX (cutbox-door.mjs). By AI agents, Wed Nov 11 2026. No macro, syntax, notation, axiom, sorry.
-/
import Derived.Test.YtpmbhdheeaejgaaGreatDoorRows
import GoSem.ClaimSeven
namespace Go.Proofs.YtpmbhdheeaejgaaGreatDoor
namespace Rows

/-- THE TIED CARD OF 'ontimelaw50.AuditTexts'. -/
def auditTextsCard : Claim7 := { stood := { row := auditTextsRow, standIns := [], harness := (true, "48ea6a55092384632a0d5854dde31bfc1555d94a969bbb4e2bd3ff5ded7fa297"), looks := true }, kinds := [], alts := [], laidByText := true, laidKinds := [.data, .data, .data, .data, .sentinel, .sentinel, .pinned], laidTests := true, laidLooks := .later }
def AuditTextsCardSaid : Prop := Claim7.holds Tryz.pinned (.plain (OpenSpec.ofChange auditTextsSpec)) auditTextsCard

/-- THE TIED CARD OF 'ontimelaw50.AuditParses'. -/
def auditParsesCard : Claim7 := { stood := { row := auditParsesRow, standIns := [], harness := (true, "48ea6a55092384632a0d5854dde31bfc1555d94a969bbb4e2bd3ff5ded7fa297"), looks := true }, kinds := [], alts := [], laidByText := true, laidKinds := [.data, .data, .data, .data, .sentinel, .sentinel, .pinned], laidTests := true, laidLooks := .later }
def AuditParsesCardSaid : Prop := Claim7.holds Tryz.pinned (.plain (OpenSpec.ofChange auditParsesSpec)) auditParsesCard

/-- THE SECOND FORM's CARD OF 'ontimelaw50.AuditTexts'. -/
def auditTextsUptoCard : Claim7 := { stood := { row := auditTextsUptoRow, standIns := [], harness := (true, "48ea6a55092384632a0d5854dde31bfc1555d94a969bbb4e2bd3ff5ded7fa297"), looks := true }, kinds := [], alts := [], laidByText := true, laidKinds := [.data, .data, .data, .data, .sentinel, .sentinel, .pinned], laidTests := true, laidLooks := .later }
def AuditTextsUptoCardSaid : Prop := Claim7.holds Tryz.pinned (.plain (OpenSpec.upto auditTextsSpec)) auditTextsUptoCard

/-- THE SECOND FORM's CARD OF 'ontimelaw50.AuditParses'. -/
def auditParsesUptoCard : Claim7 := { stood := { row := auditParsesUptoRow, standIns := [], harness := (true, "48ea6a55092384632a0d5854dde31bfc1555d94a969bbb4e2bd3ff5ded7fa297"), looks := true }, kinds := [], alts := [], laidByText := true, laidKinds := [.data, .data, .data, .data, .sentinel, .sentinel, .pinned], laidTests := true, laidLooks := .later }
def AuditParsesUptoCardSaid : Prop := Claim7.holds Tryz.pinned (.plain (OpenSpec.upto auditParsesSpec)) auditParsesUptoCard
end Rows
end Go.Proofs.YtpmbhdheeaejgaaGreatDoor
