/-
  DERIVED. GIVEN WITH THE SEED: THE CARDS: each row of YtgacfcdpgcpjeaaDoorRows.lean that lists a variable, with what it lists TIED to the program's text (the seventh form; the later family's looks); each row that meets fmt, with fmt's text TOLD by the authors' own Lean function (tested against real Go, not proved from fmt's source: count such statements apart). THE CARD IS WHAT COUNTS. Prove the row's statement (the work); the ties are given (YtgacfcdpgcpjeaaDoorTie.lean); close each card by the builder's one call (the guide's Derived/Test/ToyasCard.lean, 'card_holds'). Laid BY PROGRAM, IN A SANDBOX (cutbox-door.mjs). By AI agents, Wed Nov 11 2026. No macro, syntax, notation, axiom, sorry.
-/
import Derived.Test.YtgacfcdpgcpjeaaDoorRows
import GoSem.ClaimSeven
namespace Go.Proofs.YtgacfcdpgcpjeaaDoor
namespace Rows

/-- THE TIED CARD OF 'ontimelaw11.LexerTokens'. -/
def lexerTokensCard : Claim7 := { stood := { row := lexerTokensRow, standIns := [], harness := (true, "250c80b29fe3a01fa83b27dccc25eb8a02c4a1f0ad8b7c27791f46b14177aed9"), looks := false }, kinds := [], alts := [], laidByText := true, laidKinds := [.data], laidTests := true, laidLooks := .later }
def LexerTokensCardSaid : Prop := Claim7.holds Tryd.pinned (.plain (OpenSpec.ofChange lexerTokensSpec)) lexerTokensCard

/-- THE TIED CARD OF 'ontimelaw11.LexerAlone'. -/
def lexerAloneCard : Claim7 := { stood := { row := lexerAloneRow, standIns := [], harness := (true, "250c80b29fe3a01fa83b27dccc25eb8a02c4a1f0ad8b7c27791f46b14177aed9"), looks := false }, kinds := [], alts := [], laidByText := true, laidKinds := [.data], laidTests := true, laidLooks := .later }
def LexerAloneCardSaid : Prop := Claim7.holds Tryd.pinned (.plain (OpenSpec.ofChange lexerAloneSpec)) lexerAloneCard

/-- THE TIED CARD OF 'ontimelaw11.LexerSuffix'. -/
def lexerSuffixCard : Claim7 := { stood := { row := lexerSuffixRow, standIns := [], harness := (true, "250c80b29fe3a01fa83b27dccc25eb8a02c4a1f0ad8b7c27791f46b14177aed9"), looks := false }, kinds := [], alts := [], laidByText := true, laidKinds := [.data], laidTests := true, laidLooks := .later }
def LexerSuffixCardSaid : Prop := Claim7.holds Tryd.pinned (.plain (OpenSpec.ofChange lexerSuffixSpec)) lexerSuffixCard

/-- THE TIED CARD OF 'ontimelaw11.LexerLines'. -/
def lexerLinesCard : Claim7 := { stood := { row := lexerLinesRow, standIns := [], harness := (true, "250c80b29fe3a01fa83b27dccc25eb8a02c4a1f0ad8b7c27791f46b14177aed9"), looks := false }, kinds := [], alts := [], laidByText := true, laidKinds := [.data], laidTests := true, laidLooks := .later }
def LexerLinesCardSaid : Prop := Claim7.holds Tryd.pinned (.plain (OpenSpec.ofChange lexerLinesSpec)) lexerLinesCard

/-- THE TIED CARD OF 'ontimelaw11.LexerNames'. -/
def lexerNamesCard : Claim7 := { stood := { row := lexerNamesRow, standIns := [], harness := (true, "250c80b29fe3a01fa83b27dccc25eb8a02c4a1f0ad8b7c27791f46b14177aed9"), looks := false }, kinds := [], alts := [], laidByText := true, laidKinds := [.data], laidTests := true, laidLooks := .later }
def LexerNamesCardSaid : Prop := Claim7.holds Tryd.pinned (.plain (OpenSpec.ofChange lexerNamesSpec)) lexerNamesCard

/-- THE TIED CARD OF 'ontimelaw11.LexerJoins'. -/
def lexerJoinsCard : Claim7 := { stood := { row := lexerJoinsRow, standIns := [], harness := (true, "250c80b29fe3a01fa83b27dccc25eb8a02c4a1f0ad8b7c27791f46b14177aed9"), looks := false }, kinds := [], alts := [], laidByText := true, laidKinds := [.data], laidTests := true, laidLooks := .later }
def LexerJoinsCardSaid : Prop := Claim7.holds Tryd.pinned (.plain (OpenSpec.ofChange lexerJoinsSpec)) lexerJoinsCard

/-- THE TIED CARD OF 'ontimelaw11.LexerError'. -/
def lexerErrorCard : Claim7 := { stood := { row := lexerErrorRow, standIns := [], harness := (true, "250c80b29fe3a01fa83b27dccc25eb8a02c4a1f0ad8b7c27791f46b14177aed9"), looks := false }, kinds := [], alts := [], laidByText := true, laidKinds := [.data], laidTests := true, laidLooks := .later }
def LexerErrorCardSaid : Prop := Claim7.holds Tryd.pinned (.plain (OpenSpec.ofChange lexerErrorSpec)) lexerErrorCard

/-- THE TIED CARD OF 'ontimelaw11.LexerSolid'. -/
def lexerSolidCard : Claim7 := { stood := { row := lexerSolidRow, standIns := [], harness := (true, "250c80b29fe3a01fa83b27dccc25eb8a02c4a1f0ad8b7c27791f46b14177aed9"), looks := false }, kinds := [], alts := [], laidByText := true, laidKinds := [.data], laidTests := true, laidLooks := .later }
def LexerSolidCardSaid : Prop := Claim7.holds Tryd.pinned (.plain (OpenSpec.ofChange lexerSolidSpec)) lexerSolidCard

/-- THE TIED CARD OF 'ontimelaw11.LexerFull'. -/
def lexerFullCard : Claim7 := { stood := { row := lexerFullRow, standIns := [], harness := (true, "250c80b29fe3a01fa83b27dccc25eb8a02c4a1f0ad8b7c27791f46b14177aed9"), looks := false }, kinds := [], alts := [], laidByText := true, laidKinds := [.data], laidTests := true, laidLooks := .later }
def LexerFullCardSaid : Prop := Claim7.holds Tryd.pinned (.plain (OpenSpec.ofChange lexerFullSpec)) lexerFullCard

/-- THE SECOND FORM's CARD OF 'ontimelaw11.LexerTokens'. -/
def lexerTokensUptoCard : Claim7 := { stood := { row := lexerTokensUptoRow, standIns := [], harness := (true, "250c80b29fe3a01fa83b27dccc25eb8a02c4a1f0ad8b7c27791f46b14177aed9"), looks := false }, kinds := [], alts := [], laidByText := true, laidKinds := [.data], laidTests := true, laidLooks := .later }
def LexerTokensUptoCardSaid : Prop := Claim7.holds Tryd.pinned (.plain (OpenSpec.upto lexerTokensSpec)) lexerTokensUptoCard

/-- THE SECOND FORM's CARD OF 'ontimelaw11.LexerAlone'. -/
def lexerAloneUptoCard : Claim7 := { stood := { row := lexerAloneUptoRow, standIns := [], harness := (true, "250c80b29fe3a01fa83b27dccc25eb8a02c4a1f0ad8b7c27791f46b14177aed9"), looks := false }, kinds := [], alts := [], laidByText := true, laidKinds := [.data], laidTests := true, laidLooks := .later }
def LexerAloneUptoCardSaid : Prop := Claim7.holds Tryd.pinned (.plain (OpenSpec.upto lexerAloneSpec)) lexerAloneUptoCard

/-- THE SECOND FORM's CARD OF 'ontimelaw11.LexerSuffix'. -/
def lexerSuffixUptoCard : Claim7 := { stood := { row := lexerSuffixUptoRow, standIns := [], harness := (true, "250c80b29fe3a01fa83b27dccc25eb8a02c4a1f0ad8b7c27791f46b14177aed9"), looks := false }, kinds := [], alts := [], laidByText := true, laidKinds := [.data], laidTests := true, laidLooks := .later }
def LexerSuffixUptoCardSaid : Prop := Claim7.holds Tryd.pinned (.plain (OpenSpec.upto lexerSuffixSpec)) lexerSuffixUptoCard

/-- THE SECOND FORM's CARD OF 'ontimelaw11.LexerLines'. -/
def lexerLinesUptoCard : Claim7 := { stood := { row := lexerLinesUptoRow, standIns := [], harness := (true, "250c80b29fe3a01fa83b27dccc25eb8a02c4a1f0ad8b7c27791f46b14177aed9"), looks := false }, kinds := [], alts := [], laidByText := true, laidKinds := [.data], laidTests := true, laidLooks := .later }
def LexerLinesUptoCardSaid : Prop := Claim7.holds Tryd.pinned (.plain (OpenSpec.upto lexerLinesSpec)) lexerLinesUptoCard

/-- THE SECOND FORM's CARD OF 'ontimelaw11.LexerNames'. -/
def lexerNamesUptoCard : Claim7 := { stood := { row := lexerNamesUptoRow, standIns := [], harness := (true, "250c80b29fe3a01fa83b27dccc25eb8a02c4a1f0ad8b7c27791f46b14177aed9"), looks := false }, kinds := [], alts := [], laidByText := true, laidKinds := [.data], laidTests := true, laidLooks := .later }
def LexerNamesUptoCardSaid : Prop := Claim7.holds Tryd.pinned (.plain (OpenSpec.upto lexerNamesSpec)) lexerNamesUptoCard

/-- THE SECOND FORM's CARD OF 'ontimelaw11.LexerJoins'. -/
def lexerJoinsUptoCard : Claim7 := { stood := { row := lexerJoinsUptoRow, standIns := [], harness := (true, "250c80b29fe3a01fa83b27dccc25eb8a02c4a1f0ad8b7c27791f46b14177aed9"), looks := false }, kinds := [], alts := [], laidByText := true, laidKinds := [.data], laidTests := true, laidLooks := .later }
def LexerJoinsUptoCardSaid : Prop := Claim7.holds Tryd.pinned (.plain (OpenSpec.upto lexerJoinsSpec)) lexerJoinsUptoCard

/-- THE SECOND FORM's CARD OF 'ontimelaw11.LexerError'. -/
def lexerErrorUptoCard : Claim7 := { stood := { row := lexerErrorUptoRow, standIns := [], harness := (true, "250c80b29fe3a01fa83b27dccc25eb8a02c4a1f0ad8b7c27791f46b14177aed9"), looks := false }, kinds := [], alts := [], laidByText := true, laidKinds := [.data], laidTests := true, laidLooks := .later }
def LexerErrorUptoCardSaid : Prop := Claim7.holds Tryd.pinned (.plain (OpenSpec.upto lexerErrorSpec)) lexerErrorUptoCard

/-- THE SECOND FORM's CARD OF 'ontimelaw11.LexerSolid'. -/
def lexerSolidUptoCard : Claim7 := { stood := { row := lexerSolidUptoRow, standIns := [], harness := (true, "250c80b29fe3a01fa83b27dccc25eb8a02c4a1f0ad8b7c27791f46b14177aed9"), looks := false }, kinds := [], alts := [], laidByText := true, laidKinds := [.data], laidTests := true, laidLooks := .later }
def LexerSolidUptoCardSaid : Prop := Claim7.holds Tryd.pinned (.plain (OpenSpec.upto lexerSolidSpec)) lexerSolidUptoCard

/-- THE SECOND FORM's CARD OF 'ontimelaw11.LexerFull'. -/
def lexerFullUptoCard : Claim7 := { stood := { row := lexerFullUptoRow, standIns := [], harness := (true, "250c80b29fe3a01fa83b27dccc25eb8a02c4a1f0ad8b7c27791f46b14177aed9"), looks := false }, kinds := [], alts := [], laidByText := true, laidKinds := [.data], laidTests := true, laidLooks := .later }
def LexerFullUptoCardSaid : Prop := Claim7.holds Tryd.pinned (.plain (OpenSpec.upto lexerFullSpec)) lexerFullUptoCard
end Rows
end Go.Proofs.YtgacfcdpgcpjeaaDoor
