/-
  NARROWER THAN 'FOR EVERY INPUT', by the rows' own cells (each row's printed sentence says how): LexerTokens: laid · LexerAlone: laid · LexerSuffix: laid · LexerLines: laid · LexerNames: laid · LexerJoins: laid · LexerError: laid · LexerSolid: laid · LexerFull: laid.
  DERIVED. THE GIVEN ROWS OF THIS SEAT. 9 by the template 'for every input the law returns true; each argument reads behind the call as it read before'; 0 by the template 'total and deterministic' (their statements: YtgacfcdpgcpjeaaDoorTotals.lean).
  GIVEN WITH THE SEED: the statements are not yours to turn. If you find one false, say at which input.
  Laid BY PROGRAM, IN A SANDBOX (cutbox-rows.mjs): the forced cells as the released guide's own fill.sh prints them over the translation 83469cc7b7f0be25… (all of the seat's roots in one cut). By AI agents, Wed Nov 11 2026. No macro, syntax, notation, axiom, sorry.
-/
import Derived.Test.YtgacfcdpgcpjeaaDoorChecked
import GoSem.Claim
import GoSem.ClaimJoined
import GoSem.ClaimMapViews
import Derived.JoinedTies
import Derived.KernelRfl
namespace Go.Proofs.YtgacfcdpgcpjeaaDoor
/- THE CELL 'sum', in the pinned program and in every row, IS THE sha256 OF THE DUMP (.gsa) THAT YtgacfcdpgcpjeaaDoorProg.lean LOADS. Nothing in Lean hashes anything: it is a label: what it is worth is what the hold of that sum in a sandbox is worth. -/
noncomputable def Tryd.pinned : Pinned := { name := "ytgacfcdpgcpjeaadoor", sum := "83469cc7b7f0be25a9d602b8140ffdc03f3389b5dd4a3d5751e9f027d95dba60", checked := Tryd.checked }
namespace Rows
def none {H : Type} : Left H := { results := [], args := [] }

/- WHAT THE LISTED PACKAGE-LEVEL VARIABLES READ AS WHEN THE CALL BEGINS. Each datum BY PROGRAM (the guide's laid-datum.mjs) off the statement by which the dump's own 'gosem.cut.vars' lays the variable. In a bare row this is a premise. The card (YtgacfcdpgcpjeaaDoorCards.lean) ties it to the program's text. -/
def laid_ontime_lexer_signs {H : Type} : DataW H := .agg [.lit (.string [60, 60]), .lit (.string [62, 62]), .lit (.string [60, 61]), .lit (.string [62, 61]), .lit (.string [61, 61]), .lit (.string [33, 61]), .lit (.string [38, 38]), .lit (.string [124, 124]), .lit (.string [43]), .lit (.string [45]), .lit (.string [42]), .lit (.string [47]), .lit (.string [37]), .lit (.string [38]), .lit (.string [124]), .lit (.string [94]), .lit (.string [60]), .lit (.string [62]), .lit (.string [33]), .lit (.string [61]), .lit (.string [91]), .lit (.string [93]), .lit (.string [123]), .lit (.string [125]), .lit (.string [40]), .lit (.string [41]), .lit (.string [59]), .lit (.string [44])]

/-- 'ontimelaw11.LexerTokens': WHATEVER THE INPUT: true; the input reads as it did. -/
def lexerTokensSpec : ChangeSpec := { name := "lexerTokens", fn := fun _ => fun
  | [d] => { results := [.lit (.bool true)], args := [d] }
  | _ => none }
def lexerTokensRow : OpenClaim := { program := "ytgacfcdpgcpjeaadoor", sum := "83469cc7b7f0be25a9d602b8140ffdc03f3389b5dd4a3d5751e9f027d95dba60", func := "ontime/ontimelaw11.LexerTokens", spec := "lexerTokens", unfollowed := true, recurses := true, named := ["ontime/lexer.signs"], apart := false, laid := [("ontime/lexer.signs", laid_ontime_lexer_signs)] }
def LexerTokensSaid : Prop := lexerTokensRow.holds Tryd.pinned (OpenSpec.ofChange lexerTokensSpec)

/-- ITS FALSE NEIGHBOUR: 'it returns false'. Refute it at one input. -/
def lexerTokensWrong : ChangeSpec := { name := "lexerTokens", fn := fun _ => fun
  | [d] => { results := [.lit (.bool false)], args := [d] }
  | _ => none }
def LexerTokensWrongFalsely : Prop := lexerTokensRow.holds Tryd.pinned (OpenSpec.ofChange lexerTokensWrong)

/-- 'ontimelaw11.LexerAlone': WHATEVER THE INPUT: true; the input reads as it did. -/
def lexerAloneSpec : ChangeSpec := { name := "lexerAlone", fn := fun _ => fun
  | [d1, d2] => { results := [.lit (.bool true)], args := [d1, d2] }
  | _ => none }
def lexerAloneRow : OpenClaim := { program := "ytgacfcdpgcpjeaadoor", sum := "83469cc7b7f0be25a9d602b8140ffdc03f3389b5dd4a3d5751e9f027d95dba60", func := "ontime/ontimelaw11.LexerAlone", spec := "lexerAlone", unfollowed := true, recurses := true, named := ["ontime/lexer.signs"], apart := false, laid := [("ontime/lexer.signs", laid_ontime_lexer_signs)] }
def LexerAloneSaid : Prop := lexerAloneRow.holds Tryd.pinned (OpenSpec.ofChange lexerAloneSpec)

/-- ITS FALSE NEIGHBOUR: 'it returns false'. Refute it at one input. -/
def lexerAloneWrong : ChangeSpec := { name := "lexerAlone", fn := fun _ => fun
  | [d1, d2] => { results := [.lit (.bool false)], args := [d1, d2] }
  | _ => none }
def LexerAloneWrongFalsely : Prop := lexerAloneRow.holds Tryd.pinned (OpenSpec.ofChange lexerAloneWrong)

/-- 'ontimelaw11.LexerSuffix': WHATEVER THE INPUT: true; the input reads as it did. -/
def lexerSuffixSpec : ChangeSpec := { name := "lexerSuffix", fn := fun _ => fun
  | [d1, d2] => { results := [.lit (.bool true)], args := [d1, d2] }
  | _ => none }
def lexerSuffixRow : OpenClaim := { program := "ytgacfcdpgcpjeaadoor", sum := "83469cc7b7f0be25a9d602b8140ffdc03f3389b5dd4a3d5751e9f027d95dba60", func := "ontime/ontimelaw11.LexerSuffix", spec := "lexerSuffix", unfollowed := true, recurses := true, named := ["ontime/lexer.signs"], apart := false, laid := [("ontime/lexer.signs", laid_ontime_lexer_signs)] }
def LexerSuffixSaid : Prop := lexerSuffixRow.holds Tryd.pinned (OpenSpec.ofChange lexerSuffixSpec)

/-- ITS FALSE NEIGHBOUR: 'it returns false'. Refute it at one input. -/
def lexerSuffixWrong : ChangeSpec := { name := "lexerSuffix", fn := fun _ => fun
  | [d1, d2] => { results := [.lit (.bool false)], args := [d1, d2] }
  | _ => none }
def LexerSuffixWrongFalsely : Prop := lexerSuffixRow.holds Tryd.pinned (OpenSpec.ofChange lexerSuffixWrong)

/-- 'ontimelaw11.LexerLines': WHATEVER THE INPUT: true; the input reads as it did. -/
def lexerLinesSpec : ChangeSpec := { name := "lexerLines", fn := fun _ => fun
  | [d1, d2] => { results := [.lit (.bool true)], args := [d1, d2] }
  | _ => none }
def lexerLinesRow : OpenClaim := { program := "ytgacfcdpgcpjeaadoor", sum := "83469cc7b7f0be25a9d602b8140ffdc03f3389b5dd4a3d5751e9f027d95dba60", func := "ontime/ontimelaw11.LexerLines", spec := "lexerLines", unfollowed := true, recurses := true, named := ["ontime/lexer.signs"], apart := false, laid := [("ontime/lexer.signs", laid_ontime_lexer_signs)] }
def LexerLinesSaid : Prop := lexerLinesRow.holds Tryd.pinned (OpenSpec.ofChange lexerLinesSpec)

/-- ITS FALSE NEIGHBOUR: 'it returns false'. Refute it at one input. -/
def lexerLinesWrong : ChangeSpec := { name := "lexerLines", fn := fun _ => fun
  | [d1, d2] => { results := [.lit (.bool false)], args := [d1, d2] }
  | _ => none }
def LexerLinesWrongFalsely : Prop := lexerLinesRow.holds Tryd.pinned (OpenSpec.ofChange lexerLinesWrong)

/-- 'ontimelaw11.LexerNames': WHATEVER THE INPUT: true; the input reads as it did. -/
def lexerNamesSpec : ChangeSpec := { name := "lexerNames", fn := fun _ => fun
  | [d] => { results := [.lit (.bool true)], args := [d] }
  | _ => none }
def lexerNamesRow : OpenClaim := { program := "ytgacfcdpgcpjeaadoor", sum := "83469cc7b7f0be25a9d602b8140ffdc03f3389b5dd4a3d5751e9f027d95dba60", func := "ontime/ontimelaw11.LexerNames", spec := "lexerNames", unfollowed := true, recurses := true, named := ["ontime/lexer.signs"], apart := false, laid := [("ontime/lexer.signs", laid_ontime_lexer_signs)] }
def LexerNamesSaid : Prop := lexerNamesRow.holds Tryd.pinned (OpenSpec.ofChange lexerNamesSpec)

/-- ITS FALSE NEIGHBOUR: 'it returns false'. Refute it at one input. -/
def lexerNamesWrong : ChangeSpec := { name := "lexerNames", fn := fun _ => fun
  | [d] => { results := [.lit (.bool false)], args := [d] }
  | _ => none }
def LexerNamesWrongFalsely : Prop := lexerNamesRow.holds Tryd.pinned (OpenSpec.ofChange lexerNamesWrong)

/-- 'ontimelaw11.LexerJoins': WHATEVER THE INPUT: true; the input reads as it did. -/
def lexerJoinsSpec : ChangeSpec := { name := "lexerJoins", fn := fun _ => fun
  | [d] => { results := [.lit (.bool true)], args := [d] }
  | _ => none }
def lexerJoinsRow : OpenClaim := { program := "ytgacfcdpgcpjeaadoor", sum := "83469cc7b7f0be25a9d602b8140ffdc03f3389b5dd4a3d5751e9f027d95dba60", func := "ontime/ontimelaw11.LexerJoins", spec := "lexerJoins", inPlace := ["internal/abi.NoEscape"], unfollowed := true, recurses := true, named := ["ontime/lexer.signs"], apart := false, laid := [("ontime/lexer.signs", laid_ontime_lexer_signs)] }
def LexerJoinsSaid : Prop := lexerJoinsRow.holds Tryd.pinned (OpenSpec.ofChange lexerJoinsSpec)

/-- ITS FALSE NEIGHBOUR: 'it returns false'. Refute it at one input. -/
def lexerJoinsWrong : ChangeSpec := { name := "lexerJoins", fn := fun _ => fun
  | [d] => { results := [.lit (.bool false)], args := [d] }
  | _ => none }
def LexerJoinsWrongFalsely : Prop := lexerJoinsRow.holds Tryd.pinned (OpenSpec.ofChange lexerJoinsWrong)

/-- 'ontimelaw11.LexerError': WHATEVER THE INPUT: true; the input reads as it did. -/
def lexerErrorSpec : ChangeSpec := { name := "lexerError", fn := fun _ => fun
  | [d] => { results := [.lit (.bool true)], args := [d] }
  | _ => none }
def lexerErrorRow : OpenClaim := { program := "ytgacfcdpgcpjeaadoor", sum := "83469cc7b7f0be25a9d602b8140ffdc03f3389b5dd4a3d5751e9f027d95dba60", func := "ontime/ontimelaw11.LexerError", spec := "lexerError", inPlace := ["internal/abi.NoEscape"], unfollowed := true, recurses := true, named := ["ontime/lexer.signs"], apart := false, laid := [("ontime/lexer.signs", laid_ontime_lexer_signs)] }
def LexerErrorSaid : Prop := lexerErrorRow.holds Tryd.pinned (OpenSpec.ofChange lexerErrorSpec)

/-- ITS FALSE NEIGHBOUR: 'it returns false'. Refute it at one input. -/
def lexerErrorWrong : ChangeSpec := { name := "lexerError", fn := fun _ => fun
  | [d] => { results := [.lit (.bool false)], args := [d] }
  | _ => none }
def LexerErrorWrongFalsely : Prop := lexerErrorRow.holds Tryd.pinned (OpenSpec.ofChange lexerErrorWrong)

/-- 'ontimelaw11.LexerSolid': WHATEVER THE INPUT: true; the input reads as it did. -/
def lexerSolidSpec : ChangeSpec := { name := "lexerSolid", fn := fun _ => fun
  | [d] => { results := [.lit (.bool true)], args := [d] }
  | _ => none }
def lexerSolidRow : OpenClaim := { program := "ytgacfcdpgcpjeaadoor", sum := "83469cc7b7f0be25a9d602b8140ffdc03f3389b5dd4a3d5751e9f027d95dba60", func := "ontime/ontimelaw11.LexerSolid", spec := "lexerSolid", inPlace := ["internal/abi.NoEscape"], unfollowed := true, recurses := true, named := ["ontime/lexer.signs"], apart := false, laid := [("ontime/lexer.signs", laid_ontime_lexer_signs)] }
def LexerSolidSaid : Prop := lexerSolidRow.holds Tryd.pinned (OpenSpec.ofChange lexerSolidSpec)

/-- ITS FALSE NEIGHBOUR: 'it returns false'. Refute it at one input. -/
def lexerSolidWrong : ChangeSpec := { name := "lexerSolid", fn := fun _ => fun
  | [d] => { results := [.lit (.bool false)], args := [d] }
  | _ => none }
def LexerSolidWrongFalsely : Prop := lexerSolidRow.holds Tryd.pinned (OpenSpec.ofChange lexerSolidWrong)

/-- 'ontimelaw11.LexerFull': WHATEVER THE INPUT: true; the input reads as it did. -/
def lexerFullSpec : ChangeSpec := { name := "lexerFull", fn := fun _ => fun
  | [d1, d2] => { results := [.lit (.bool true)], args := [d1, d2] }
  | _ => none }
def lexerFullRow : OpenClaim := { program := "ytgacfcdpgcpjeaadoor", sum := "83469cc7b7f0be25a9d602b8140ffdc03f3389b5dd4a3d5751e9f027d95dba60", func := "ontime/ontimelaw11.LexerFull", spec := "lexerFull", inPlace := ["internal/abi.NoEscape", "internal/bytealg.MakeNoZero"], unfollowed := true, recurses := true, named := ["ontime/lexer.signs"], apart := false, laid := [("ontime/lexer.signs", laid_ontime_lexer_signs)] }
def LexerFullSaid : Prop := lexerFullRow.holds Tryd.pinned (OpenSpec.ofChange lexerFullSpec)

/-- ITS FALSE NEIGHBOUR: 'it returns false'. Refute it at one input. -/
def lexerFullWrong : ChangeSpec := { name := "lexerFull", fn := fun _ => fun
  | [d1, d2] => { results := [.lit (.bool false)], args := [d1, d2] }
  | _ => none }
def LexerFullWrongFalsely : Prop := lexerFullRow.holds Tryd.pinned (OpenSpec.ofChange lexerFullWrong)

/- THE SECOND FORM. 'bulk': how many values and letters a reading holds, each counted each time it is reached (what is shared counts as often as it is met; a slice's spare places count too). A statement '..UptoSaid' is the law's where the arguments, and the package variables that the reading takes, are together of bulk at most 1048576: NARROWER than '..Said'. Prove '..Said' where nothing that the law and all that it calls make is longer than what came in: it says more and counts as full. Else prove '..UptoSaid'. A law counts once. -/
mutual
def uptoBulk {H : Type} : DataW H → Nat
  | .lit (.string bytes) => bytes.length + 1
  | .lit _ => 1
  | .nil => 1
  | .ptr d => uptoBulk d + 1
  | .slice elems spare => uptoBulkAll elems + uptoBulkAll spare + 1
  | .agg parts => uptoBulkAll parts + 1
  | .iface _ d => uptoBulk d + 1
  | .map entries => uptoBulkEntries entries + 1
  | .held _ => 1
def uptoBulkAll {H : Type} : List (DataW H) → Nat
  | [] => 0
  | d :: r => uptoBulk d + uptoBulkAll r
def uptoBulkEntries {H : Type} : List (Lit × DataW H) → Nat
  | [] => 0
  | x :: r => uptoBulkEntry x + uptoBulkEntries r
def uptoBulkEntry {H : Type} : Lit × DataW H → Nat
  | (.string bytes, d) => bytes.length + uptoBulk d + 1
  | (_, d) => uptoBulk d + 1
 end
def uptoSmall : (H : Type) → List (DataW H) → Bool := fun _ ds => decide (uptoBulkAll ds ≤ 1048576)
def OpenSpec.upto (s : _root_.Go.ChangeSpec) : _root_.Go.OpenSpec := { _root_.Go.OpenSpec.ofChange s with cond := some uptoSmall }

/-- 'ontimelaw11.LexerTokens', WHERE WHAT IT READS IS OF BULK AT MOST 1048576: true; the input reads as it did. -/
def lexerTokensUptoRow : OpenClaim := { program := "ytgacfcdpgcpjeaadoor", sum := "83469cc7b7f0be25a9d602b8140ffdc03f3389b5dd4a3d5751e9f027d95dba60", func := "ontime/ontimelaw11.LexerTokens", spec := "lexerTokens", unfollowed := true, recurses := true, named := ["ontime/lexer.signs"], apart := false, laid := [("ontime/lexer.signs", laid_ontime_lexer_signs)], narrowed := true }
def LexerTokensUptoSaid : Prop := lexerTokensUptoRow.holds Tryd.pinned (OpenSpec.upto lexerTokensSpec)

/-- 'ontimelaw11.LexerAlone', WHERE WHAT IT READS IS OF BULK AT MOST 1048576: true; the input reads as it did. -/
def lexerAloneUptoRow : OpenClaim := { program := "ytgacfcdpgcpjeaadoor", sum := "83469cc7b7f0be25a9d602b8140ffdc03f3389b5dd4a3d5751e9f027d95dba60", func := "ontime/ontimelaw11.LexerAlone", spec := "lexerAlone", unfollowed := true, recurses := true, named := ["ontime/lexer.signs"], apart := false, laid := [("ontime/lexer.signs", laid_ontime_lexer_signs)], narrowed := true }
def LexerAloneUptoSaid : Prop := lexerAloneUptoRow.holds Tryd.pinned (OpenSpec.upto lexerAloneSpec)

/-- 'ontimelaw11.LexerSuffix', WHERE WHAT IT READS IS OF BULK AT MOST 1048576: true; the input reads as it did. -/
def lexerSuffixUptoRow : OpenClaim := { program := "ytgacfcdpgcpjeaadoor", sum := "83469cc7b7f0be25a9d602b8140ffdc03f3389b5dd4a3d5751e9f027d95dba60", func := "ontime/ontimelaw11.LexerSuffix", spec := "lexerSuffix", unfollowed := true, recurses := true, named := ["ontime/lexer.signs"], apart := false, laid := [("ontime/lexer.signs", laid_ontime_lexer_signs)], narrowed := true }
def LexerSuffixUptoSaid : Prop := lexerSuffixUptoRow.holds Tryd.pinned (OpenSpec.upto lexerSuffixSpec)

/-- 'ontimelaw11.LexerLines', WHERE WHAT IT READS IS OF BULK AT MOST 1048576: true; the input reads as it did. -/
def lexerLinesUptoRow : OpenClaim := { program := "ytgacfcdpgcpjeaadoor", sum := "83469cc7b7f0be25a9d602b8140ffdc03f3389b5dd4a3d5751e9f027d95dba60", func := "ontime/ontimelaw11.LexerLines", spec := "lexerLines", unfollowed := true, recurses := true, named := ["ontime/lexer.signs"], apart := false, laid := [("ontime/lexer.signs", laid_ontime_lexer_signs)], narrowed := true }
def LexerLinesUptoSaid : Prop := lexerLinesUptoRow.holds Tryd.pinned (OpenSpec.upto lexerLinesSpec)

/-- 'ontimelaw11.LexerNames', WHERE WHAT IT READS IS OF BULK AT MOST 1048576: true; the input reads as it did. -/
def lexerNamesUptoRow : OpenClaim := { program := "ytgacfcdpgcpjeaadoor", sum := "83469cc7b7f0be25a9d602b8140ffdc03f3389b5dd4a3d5751e9f027d95dba60", func := "ontime/ontimelaw11.LexerNames", spec := "lexerNames", unfollowed := true, recurses := true, named := ["ontime/lexer.signs"], apart := false, laid := [("ontime/lexer.signs", laid_ontime_lexer_signs)], narrowed := true }
def LexerNamesUptoSaid : Prop := lexerNamesUptoRow.holds Tryd.pinned (OpenSpec.upto lexerNamesSpec)

/-- 'ontimelaw11.LexerJoins', WHERE WHAT IT READS IS OF BULK AT MOST 1048576: true; the input reads as it did. -/
def lexerJoinsUptoRow : OpenClaim := { program := "ytgacfcdpgcpjeaadoor", sum := "83469cc7b7f0be25a9d602b8140ffdc03f3389b5dd4a3d5751e9f027d95dba60", func := "ontime/ontimelaw11.LexerJoins", spec := "lexerJoins", inPlace := ["internal/abi.NoEscape"], unfollowed := true, recurses := true, named := ["ontime/lexer.signs"], apart := false, laid := [("ontime/lexer.signs", laid_ontime_lexer_signs)], narrowed := true }
def LexerJoinsUptoSaid : Prop := lexerJoinsUptoRow.holds Tryd.pinned (OpenSpec.upto lexerJoinsSpec)

/-- 'ontimelaw11.LexerError', WHERE WHAT IT READS IS OF BULK AT MOST 1048576: true; the input reads as it did. -/
def lexerErrorUptoRow : OpenClaim := { program := "ytgacfcdpgcpjeaadoor", sum := "83469cc7b7f0be25a9d602b8140ffdc03f3389b5dd4a3d5751e9f027d95dba60", func := "ontime/ontimelaw11.LexerError", spec := "lexerError", inPlace := ["internal/abi.NoEscape"], unfollowed := true, recurses := true, named := ["ontime/lexer.signs"], apart := false, laid := [("ontime/lexer.signs", laid_ontime_lexer_signs)], narrowed := true }
def LexerErrorUptoSaid : Prop := lexerErrorUptoRow.holds Tryd.pinned (OpenSpec.upto lexerErrorSpec)

/-- 'ontimelaw11.LexerSolid', WHERE WHAT IT READS IS OF BULK AT MOST 1048576: true; the input reads as it did. -/
def lexerSolidUptoRow : OpenClaim := { program := "ytgacfcdpgcpjeaadoor", sum := "83469cc7b7f0be25a9d602b8140ffdc03f3389b5dd4a3d5751e9f027d95dba60", func := "ontime/ontimelaw11.LexerSolid", spec := "lexerSolid", inPlace := ["internal/abi.NoEscape"], unfollowed := true, recurses := true, named := ["ontime/lexer.signs"], apart := false, laid := [("ontime/lexer.signs", laid_ontime_lexer_signs)], narrowed := true }
def LexerSolidUptoSaid : Prop := lexerSolidUptoRow.holds Tryd.pinned (OpenSpec.upto lexerSolidSpec)

/-- 'ontimelaw11.LexerFull', WHERE WHAT IT READS IS OF BULK AT MOST 1048576: true; the input reads as it did. -/
def lexerFullUptoRow : OpenClaim := { program := "ytgacfcdpgcpjeaadoor", sum := "83469cc7b7f0be25a9d602b8140ffdc03f3389b5dd4a3d5751e9f027d95dba60", func := "ontime/ontimelaw11.LexerFull", spec := "lexerFull", inPlace := ["internal/abi.NoEscape", "internal/bytealg.MakeNoZero"], unfollowed := true, recurses := true, named := ["ontime/lexer.signs"], apart := false, laid := [("ontime/lexer.signs", laid_ontime_lexer_signs)], narrowed := true }
def LexerFullUptoSaid : Prop := lexerFullUptoRow.holds Tryd.pinned (OpenSpec.upto lexerFullSpec)

end Rows
end Go.Proofs.YtgacfcdpgcpjeaaDoor
