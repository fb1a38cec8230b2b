/-
  NARROWER THAN 'FOR EVERY INPUT', by the rows' own cells (each row's printed sentence says how): ParserPrograms: laid.
  DERIVED. THE GIVEN ROWS OF THIS SEAT. 1 by the template 'for every input the law returns true; each argument reads behind the call as it read before'; 0 by the template 'total and deterministic' (their statements: YtglaecalbamnkaaGreatDoorTotals.lean).
  GIVEN WITH THE SEED: the statements are not yours to turn. If you find one false, say at which input.
  Laid BY PROGRAM, IN A SANDBOX (cutbox-rows.mjs): the forced cells as the released guide's own fill.sh prints them over the translation 86c0c1ceb86dde1f… (all of the seat's roots in one cut). By AI agents, Wed Nov 11 2026. No macro, syntax, notation, axiom, sorry.
-/
import Derived.Test.YtglaecalbamnkaaGreatDoorChecked
import GoSem.PinnedTables
import GoSem.Claim
import GoSem.ClaimJoined
import GoSem.ClaimMapViews
import Derived.JoinedTies
import Derived.KernelRfl
namespace Go.Proofs.YtglaecalbamnkaaGreatDoor
/- THE CELL 'sum', in the pinned program and in every row, IS THE sha256 OF THE DUMP (.gsa) THAT YtglaecalbamnkaaGreatDoorProg.lean LOADS. Nothing in Lean hashes anything: it is a label: what it is worth is what the hold of that sum in a sandbox is worth. -/
noncomputable def Tryz.pinned : Pinned := { name := "ytglaecalbamnkaagreatdoor", sum := "86c0c1ceb86dde1f07a9ffcfa70765ea202c6467df8ca2267493a2ab10b70e7c", checked := Tryz.checked }
namespace Rows
def none {H : Type} : Left H := { results := [], args := [] }

/- WHAT THE LISTED PACKAGE-LEVEL VARIABLES READ AS WHEN THE CALL BEGINS. Each datum BY PROGRAM (the guide's laid-datum.mjs) off the statement by which the dump's own 'gosem.cut.vars' lays the variable. In a bare row this is a premise. The card (YtglaecalbamnkaaGreatDoorCards.lean) ties it to the program's text. -/
def laid_ontime_word_operators {H : Type} : DataW H := .agg [.agg [.lit (.string []), .lit (.int .i64 0)], .agg [.lit (.string []), .lit (.int .i64 0)], .agg [.lit (.string []), .lit (.int .i64 0)], .agg [.lit (.string []), .lit (.int .i64 0)], .agg [.lit (.string [45]), .lit (.int .i64 11)], .agg [.lit (.string [33]), .lit (.int .i64 11)], .agg [.lit (.string [43]), .lit (.int .i64 9)], .agg [.lit (.string [45]), .lit (.int .i64 9)], .agg [.lit (.string [42]), .lit (.int .i64 10)], .agg [.lit (.string [47]), .lit (.int .i64 10)], .agg [.lit (.string [37]), .lit (.int .i64 10)], .agg [.lit (.string [38]), .lit (.int .i64 5)], .agg [.lit (.string [124]), .lit (.int .i64 3)], .agg [.lit (.string [94]), .lit (.int .i64 4)], .agg [.lit (.string [60, 60]), .lit (.int .i64 8)], .agg [.lit (.string [62, 62]), .lit (.int .i64 8)], .agg [.lit (.string [61, 61]), .lit (.int .i64 6)], .agg [.lit (.string [33, 61]), .lit (.int .i64 6)], .agg [.lit (.string [60]), .lit (.int .i64 7)], .agg [.lit (.string [60, 61]), .lit (.int .i64 7)], .agg [.lit (.string [62]), .lit (.int .i64 7)], .agg [.lit (.string [62, 61]), .lit (.int .i64 7)], .agg [.lit (.string [38, 38]), .lit (.int .i64 2)], .agg [.lit (.string [124, 124]), .lit (.int .i64 1)]]
def laid_unicode_utf8_acceptRanges {H : Type} : DataW H := .agg [.agg [.lit (.int .u8 128), .lit (.int .u8 191)], .agg [.lit (.int .u8 160), .lit (.int .u8 191)], .agg [.lit (.int .u8 128), .lit (.int .u8 159)], .agg [.lit (.int .u8 144), .lit (.int .u8 191)], .agg [.lit (.int .u8 128), .lit (.int .u8 143)], .agg [.lit (.int .u8 0), .lit (.int .u8 0)], .agg [.lit (.int .u8 0), .lit (.int .u8 0)], .agg [.lit (.int .u8 0), .lit (.int .u8 0)], .agg [.lit (.int .u8 0), .lit (.int .u8 0)], .agg [.lit (.int .u8 0), .lit (.int .u8 0)], .agg [.lit (.int .u8 0), .lit (.int .u8 0)], .agg [.lit (.int .u8 0), .lit (.int .u8 0)], .agg [.lit (.int .u8 0), .lit (.int .u8 0)], .agg [.lit (.int .u8 0), .lit (.int .u8 0)], .agg [.lit (.int .u8 0), .lit (.int .u8 0)], .agg [.lit (.int .u8 0), .lit (.int .u8 0)]]
def laid_ontime_lexer_signs {H : Type} : DataW H := .agg [.lit (.string [60, 60]), .lit (.string [62, 62]), .lit (.string [60, 61]), .lit (.string [62, 61]), .lit (.string [61, 61]), .lit (.string [33, 61]), .lit (.string [38, 38]), .lit (.string [124, 124]), .lit (.string [43]), .lit (.string [45]), .lit (.string [42]), .lit (.string [47]), .lit (.string [37]), .lit (.string [38]), .lit (.string [124]), .lit (.string [94]), .lit (.string [60]), .lit (.string [62]), .lit (.string [33]), .lit (.string [61]), .lit (.string [91]), .lit (.string [93]), .lit (.string [123]), .lit (.string [125]), .lit (.string [40]), .lit (.string [41]), .lit (.string [59]), .lit (.string [44])]
/-- One of Go's own tables, pinned by name: the form's constant. -/
def laid_unicode_utf8_first : DataW Unit := Go.Pinned.utf8First

/-- 'ontimelaw13.ParserPrograms': WHATEVER THE INPUT: true; the input reads as it did. -/
def parserProgramsSpec : ChangeSpec := { name := "parserPrograms", fn := fun _ => fun
  | [d] => { results := [.lit (.bool true)], args := [d] }
  | _ => none }
def parserProgramsRow : OpenClaim := { program := "ytglaecalbamnkaagreatdoor", sum := "86c0c1ceb86dde1f07a9ffcfa70765ea202c6467df8ca2267493a2ab10b70e7c", func := "ontime/ontimelaw13.ParserPrograms", spec := "parserPrograms", inPlace := ["internal/bytealg.IndexByteString", "internal/bytealg.IndexString"], unfollowed := true, recurses := true, named := ["ontime/lexer.signs", "ontime/word.operators", "unicode/utf8.first", "unicode/utf8.acceptRanges", "internal/bytealg.MaxLen"], apart := false, laid := [("ontime/word.operators", laid_ontime_word_operators), ("unicode/utf8.acceptRanges", laid_unicode_utf8_acceptRanges), ("ontime/lexer.signs", laid_ontime_lexer_signs), ("unicode/utf8.first", laid_unicode_utf8_first)] }
def ParserProgramsSaid : Prop := parserProgramsRow.holds Tryz.pinned (OpenSpec.ofChange parserProgramsSpec)

/-- ITS FALSE NEIGHBOUR: 'it returns false'. Refute it at one input. -/
def parserProgramsWrong : ChangeSpec := { name := "parserPrograms", fn := fun _ => fun
  | [d] => { results := [.lit (.bool false)], args := [d] }
  | _ => none }
def ParserProgramsWrongFalsely : Prop := parserProgramsRow.holds Tryz.pinned (OpenSpec.ofChange parserProgramsWrong)

/- THE SECOND FORM. 'bulk': how many values and letters a reading holds, each counted each time it is reached (what is shared counts as often as it is met; a slice's spare places count too). A statement '..UptoSaid' is the law's where the arguments, and the package variables that the reading takes, are together of bulk at most 1048576: NARROWER than '..Said'. Prove '..Said' where nothing that the law and all that it calls make is longer than what came in: it says more and counts as full. Else prove '..UptoSaid'. A law counts once. -/
mutual
def uptoBulk {H : Type} : DataW H → Nat
  | .lit (.string bytes) => bytes.length + 1
  | .lit _ => 1
  | .nil => 1
  | .ptr d => uptoBulk d + 1
  | .slice elems spare => uptoBulkAll elems + uptoBulkAll spare + 1
  | .agg parts => uptoBulkAll parts + 1
  | .iface _ d => uptoBulk d + 1
  | .map entries => uptoBulkEntries entries + 1
  | .held _ => 1
def uptoBulkAll {H : Type} : List (DataW H) → Nat
  | [] => 0
  | d :: r => uptoBulk d + uptoBulkAll r
def uptoBulkEntries {H : Type} : List (Lit × DataW H) → Nat
  | [] => 0
  | x :: r => uptoBulkEntry x + uptoBulkEntries r
def uptoBulkEntry {H : Type} : Lit × DataW H → Nat
  | (.string bytes, d) => bytes.length + uptoBulk d + 1
  | (_, d) => uptoBulk d + 1
 end
def uptoSmall : (H : Type) → List (DataW H) → Bool := fun _ ds => decide (uptoBulkAll ds ≤ 1048576)
def OpenSpec.upto (s : _root_.Go.ChangeSpec) : _root_.Go.OpenSpec := { _root_.Go.OpenSpec.ofChange s with cond := some uptoSmall }

/-- 'ontimelaw13.ParserPrograms', WHERE WHAT IT READS IS OF BULK AT MOST 1048576: true; the input reads as it did. -/
def parserProgramsUptoRow : OpenClaim := { program := "ytglaecalbamnkaagreatdoor", sum := "86c0c1ceb86dde1f07a9ffcfa70765ea202c6467df8ca2267493a2ab10b70e7c", func := "ontime/ontimelaw13.ParserPrograms", spec := "parserPrograms", inPlace := ["internal/bytealg.IndexByteString", "internal/bytealg.IndexString"], unfollowed := true, recurses := true, named := ["ontime/lexer.signs", "ontime/word.operators", "unicode/utf8.first", "unicode/utf8.acceptRanges", "internal/bytealg.MaxLen"], apart := false, laid := [("ontime/word.operators", laid_ontime_word_operators), ("unicode/utf8.acceptRanges", laid_unicode_utf8_acceptRanges), ("ontime/lexer.signs", laid_ontime_lexer_signs), ("unicode/utf8.first", laid_unicode_utf8_first)], narrowed := true }
def ParserProgramsUptoSaid : Prop := parserProgramsUptoRow.holds Tryz.pinned (OpenSpec.upto parserProgramsSpec)

end Rows
end Go.Proofs.YtglaecalbamnkaaGreatDoor
