/-
  NARROWER THAN 'FOR EVERY INPUT', by the rows' own cells (each row's printed sentence says how): ParserPrograms: laid · ParserParts: laid · PrinterBlocks: loops, laid · PrinterRound: loops, laid · PrinterFixed: laid.
  DERIVED. THE GIVEN ROWS OF THIS SEAT. 5 by the template 'for every input the law returns true; each argument reads behind the call as it read before'; 0 by the template 'total and deterministic' (their statements: YtfakdbnfpdalhaaGreatDoorTotals.lean).
  GIVEN WITH THE SEED: the statements are not yours to turn. If you find one false, say at which input.
  Laid BY PROGRAM, IN A SANDBOX (cutbox-rows.mjs): the forced cells as the released guide's own fill.sh prints them over the translation 3dcde25b36a225b1… (all of the seat's roots in one cut). By AI agents, Wed Nov 11 2026. No macro, syntax, notation, axiom, sorry.
-/
import Derived.Test.YtfakdbnfpdalhaaGreatDoorChecked
import GoSem.PinnedTables
import GoSem.Claim
import GoSem.ClaimJoined
import GoSem.ClaimMapViews
import Derived.JoinedTies
import Derived.KernelRfl
namespace Go.Proofs.YtfakdbnfpdalhaaGreatDoor
/- THE CELL 'sum', in the pinned program and in every row, IS THE sha256 OF THE DUMP (.gsa) THAT YtfakdbnfpdalhaaGreatDoorProg.lean LOADS. Nothing in Lean hashes anything: it is a label: what it is worth is what the hold of that sum in a sandbox is worth. -/
noncomputable def Tryz.pinned : Pinned := { name := "ytfakdbnfpdalhaagreatdoor", sum := "3dcde25b36a225b105327b0156eafb8e648af465b8b7c9941f5fbd9ddc901b39", checked := Tryz.checked }
namespace Rows
def none {H : Type} : Left H := { results := [], args := [] }

/- WHAT THE LISTED PACKAGE-LEVEL VARIABLES READ AS WHEN THE CALL BEGINS. Each datum BY PROGRAM (the guide's laid-datum.mjs) off the statement by which the dump's own 'gosem.cut.vars' lays the variable. In a bare row this is a premise. The card (YtfakdbnfpdalhaaGreatDoorCards.lean) ties it to the program's text. -/
def laid_ontime_word_operators {H : Type} : DataW H := .agg [.agg [.lit (.string []), .lit (.int .i64 0)], .agg [.lit (.string []), .lit (.int .i64 0)], .agg [.lit (.string []), .lit (.int .i64 0)], .agg [.lit (.string []), .lit (.int .i64 0)], .agg [.lit (.string [45]), .lit (.int .i64 11)], .agg [.lit (.string [33]), .lit (.int .i64 11)], .agg [.lit (.string [43]), .lit (.int .i64 9)], .agg [.lit (.string [45]), .lit (.int .i64 9)], .agg [.lit (.string [42]), .lit (.int .i64 10)], .agg [.lit (.string [47]), .lit (.int .i64 10)], .agg [.lit (.string [37]), .lit (.int .i64 10)], .agg [.lit (.string [38]), .lit (.int .i64 5)], .agg [.lit (.string [124]), .lit (.int .i64 3)], .agg [.lit (.string [94]), .lit (.int .i64 4)], .agg [.lit (.string [60, 60]), .lit (.int .i64 8)], .agg [.lit (.string [62, 62]), .lit (.int .i64 8)], .agg [.lit (.string [61, 61]), .lit (.int .i64 6)], .agg [.lit (.string [33, 61]), .lit (.int .i64 6)], .agg [.lit (.string [60]), .lit (.int .i64 7)], .agg [.lit (.string [60, 61]), .lit (.int .i64 7)], .agg [.lit (.string [62]), .lit (.int .i64 7)], .agg [.lit (.string [62, 61]), .lit (.int .i64 7)], .agg [.lit (.string [38, 38]), .lit (.int .i64 2)], .agg [.lit (.string [124, 124]), .lit (.int .i64 1)]]
def laid_unicode_utf8_acceptRanges {H : Type} : DataW H := .agg [.agg [.lit (.int .u8 128), .lit (.int .u8 191)], .agg [.lit (.int .u8 160), .lit (.int .u8 191)], .agg [.lit (.int .u8 128), .lit (.int .u8 159)], .agg [.lit (.int .u8 144), .lit (.int .u8 191)], .agg [.lit (.int .u8 128), .lit (.int .u8 143)], .agg [.lit (.int .u8 0), .lit (.int .u8 0)], .agg [.lit (.int .u8 0), .lit (.int .u8 0)], .agg [.lit (.int .u8 0), .lit (.int .u8 0)], .agg [.lit (.int .u8 0), .lit (.int .u8 0)], .agg [.lit (.int .u8 0), .lit (.int .u8 0)], .agg [.lit (.int .u8 0), .lit (.int .u8 0)], .agg [.lit (.int .u8 0), .lit (.int .u8 0)], .agg [.lit (.int .u8 0), .lit (.int .u8 0)], .agg [.lit (.int .u8 0), .lit (.int .u8 0)], .agg [.lit (.int .u8 0), .lit (.int .u8 0)], .agg [.lit (.int .u8 0), .lit (.int .u8 0)]]
def laid_ontime_lexer_signs {H : Type} : DataW H := .agg [.lit (.string [60, 60]), .lit (.string [62, 62]), .lit (.string [60, 61]), .lit (.string [62, 61]), .lit (.string [61, 61]), .lit (.string [33, 61]), .lit (.string [38, 38]), .lit (.string [124, 124]), .lit (.string [43]), .lit (.string [45]), .lit (.string [42]), .lit (.string [47]), .lit (.string [37]), .lit (.string [38]), .lit (.string [124]), .lit (.string [94]), .lit (.string [60]), .lit (.string [62]), .lit (.string [33]), .lit (.string [61]), .lit (.string [91]), .lit (.string [93]), .lit (.string [123]), .lit (.string [125]), .lit (.string [40]), .lit (.string [41]), .lit (.string [59]), .lit (.string [44])]
/-- One of Go's own tables, pinned by name: the form's constant. -/
def laid_unicode_utf8_first : DataW Unit := Go.Pinned.utf8First
def laid_math_bits_deBruijn32tab {H : Type} : DataW H := .agg [.lit (.int .u8 0), .lit (.int .u8 1), .lit (.int .u8 28), .lit (.int .u8 2), .lit (.int .u8 29), .lit (.int .u8 14), .lit (.int .u8 24), .lit (.int .u8 3), .lit (.int .u8 30), .lit (.int .u8 22), .lit (.int .u8 20), .lit (.int .u8 15), .lit (.int .u8 25), .lit (.int .u8 17), .lit (.int .u8 4), .lit (.int .u8 8), .lit (.int .u8 31), .lit (.int .u8 27), .lit (.int .u8 13), .lit (.int .u8 23), .lit (.int .u8 21), .lit (.int .u8 19), .lit (.int .u8 16), .lit (.int .u8 7), .lit (.int .u8 26), .lit (.int .u8 12), .lit (.int .u8 18), .lit (.int .u8 6), .lit (.int .u8 11), .lit (.int .u8 5), .lit (.int .u8 10), .lit (.int .u8 9)]
def laid_math_bits_deBruijn64tab {H : Type} : DataW H := .agg [.lit (.int .u8 0), .lit (.int .u8 1), .lit (.int .u8 56), .lit (.int .u8 2), .lit (.int .u8 57), .lit (.int .u8 49), .lit (.int .u8 28), .lit (.int .u8 3), .lit (.int .u8 61), .lit (.int .u8 58), .lit (.int .u8 42), .lit (.int .u8 50), .lit (.int .u8 38), .lit (.int .u8 29), .lit (.int .u8 17), .lit (.int .u8 4), .lit (.int .u8 62), .lit (.int .u8 47), .lit (.int .u8 59), .lit (.int .u8 36), .lit (.int .u8 45), .lit (.int .u8 43), .lit (.int .u8 51), .lit (.int .u8 22), .lit (.int .u8 53), .lit (.int .u8 39), .lit (.int .u8 33), .lit (.int .u8 30), .lit (.int .u8 24), .lit (.int .u8 18), .lit (.int .u8 12), .lit (.int .u8 5), .lit (.int .u8 63), .lit (.int .u8 55), .lit (.int .u8 48), .lit (.int .u8 27), .lit (.int .u8 60), .lit (.int .u8 41), .lit (.int .u8 37), .lit (.int .u8 16), .lit (.int .u8 46), .lit (.int .u8 35), .lit (.int .u8 44), .lit (.int .u8 21), .lit (.int .u8 52), .lit (.int .u8 32), .lit (.int .u8 23), .lit (.int .u8 11), .lit (.int .u8 54), .lit (.int .u8 26), .lit (.int .u8 40), .lit (.int .u8 15), .lit (.int .u8 34), .lit (.int .u8 20), .lit (.int .u8 31), .lit (.int .u8 10), .lit (.int .u8 25), .lit (.int .u8 14), .lit (.int .u8 19), .lit (.int .u8 9), .lit (.int .u8 13), .lit (.int .u8 8), .lit (.int .u8 7), .lit (.int .u8 6)]
def laid_internal_strconv_uint64pow10 {H : Type} : DataW H := .agg [.lit (.int .u64 1), .lit (.int .u64 10), .lit (.int .u64 100), .lit (.int .u64 1000), .lit (.int .u64 10000), .lit (.int .u64 100000), .lit (.int .u64 1000000), .lit (.int .u64 10000000), .lit (.int .u64 100000000), .lit (.int .u64 1000000000), .lit (.int .u64 10000000000), .lit (.int .u64 100000000000), .lit (.int .u64 1000000000000), .lit (.int .u64 10000000000000), .lit (.int .u64 100000000000000), .lit (.int .u64 1000000000000000), .lit (.int .u64 10000000000000000), .lit (.int .u64 100000000000000000), .lit (.int .u64 1000000000000000000), .lit (.int .u64 10000000000000000000)]

/-- 'ontimelaw13.ParserPrograms': WHATEVER THE INPUT: true; the input reads as it did. -/
def parserProgramsSpec : ChangeSpec := { name := "parserPrograms", fn := fun _ => fun
  | [d] => { results := [.lit (.bool true)], args := [d] }
  | _ => none }
def parserProgramsRow : OpenClaim := { program := "ytfakdbnfpdalhaagreatdoor", sum := "3dcde25b36a225b105327b0156eafb8e648af465b8b7c9941f5fbd9ddc901b39", func := "ontime/ontimelaw13.ParserPrograms", spec := "parserPrograms", inPlace := ["internal/bytealg.IndexByteString", "internal/bytealg.IndexString"], unfollowed := true, recurses := true, named := ["ontime/lexer.signs", "ontime/word.operators", "unicode/utf8.first", "unicode/utf8.acceptRanges", "internal/bytealg.MaxLen"], apart := false, laid := [("ontime/word.operators", laid_ontime_word_operators), ("unicode/utf8.acceptRanges", laid_unicode_utf8_acceptRanges), ("ontime/lexer.signs", laid_ontime_lexer_signs), ("unicode/utf8.first", laid_unicode_utf8_first)] }
def ParserProgramsSaid : Prop := parserProgramsRow.holds Tryz.pinned (OpenSpec.ofChange parserProgramsSpec)

/-- ITS FALSE NEIGHBOUR: 'it returns false'. Refute it at one input. -/
def parserProgramsWrong : ChangeSpec := { name := "parserPrograms", fn := fun _ => fun
  | [d] => { results := [.lit (.bool false)], args := [d] }
  | _ => none }
def ParserProgramsWrongFalsely : Prop := parserProgramsRow.holds Tryz.pinned (OpenSpec.ofChange parserProgramsWrong)

/-- 'ontimelaw13.ParserParts': WHATEVER THE INPUT: true; the input reads as it did. -/
def parserPartsSpec : ChangeSpec := { name := "parserParts", fn := fun _ => fun
  | [d] => { results := [.lit (.bool true)], args := [d] }
  | _ => none }
def parserPartsRow : OpenClaim := { program := "ytfakdbnfpdalhaagreatdoor", sum := "3dcde25b36a225b105327b0156eafb8e648af465b8b7c9941f5fbd9ddc901b39", func := "ontime/ontimelaw13.ParserParts", spec := "parserParts", inPlace := ["internal/bytealg.IndexByteString", "internal/bytealg.IndexString"], unfollowed := true, recurses := true, named := ["ontime/lexer.signs", "ontime/word.operators", "unicode/utf8.first", "unicode/utf8.acceptRanges", "internal/bytealg.MaxLen"], apart := false, laid := [("ontime/word.operators", laid_ontime_word_operators), ("unicode/utf8.acceptRanges", laid_unicode_utf8_acceptRanges), ("ontime/lexer.signs", laid_ontime_lexer_signs), ("unicode/utf8.first", laid_unicode_utf8_first)] }
def ParserPartsSaid : Prop := parserPartsRow.holds Tryz.pinned (OpenSpec.ofChange parserPartsSpec)

/-- ITS FALSE NEIGHBOUR: 'it returns false'. Refute it at one input. -/
def parserPartsWrong : ChangeSpec := { name := "parserParts", fn := fun _ => fun
  | [d] => { results := [.lit (.bool false)], args := [d] }
  | _ => none }
def ParserPartsWrongFalsely : Prop := parserPartsRow.holds Tryz.pinned (OpenSpec.ofChange parserPartsWrong)

/-- 'ontimelaw14.PrinterBlocks': WHATEVER THE INPUT: true; the input reads as it did. -/
def printerBlocksSpec : ChangeSpec := { name := "printerBlocks", fn := fun _ => fun
  | [d1, d2] => { results := [.lit (.bool true)], args := [d1, d2] }
  | _ => none }
def printerBlocksRow : OpenClaim := { program := "ytfakdbnfpdalhaagreatdoor", sum := "3dcde25b36a225b105327b0156eafb8e648af465b8b7c9941f5fbd9ddc901b39", func := "ontime/ontimelaw14.PrinterBlocks", spec := "printerBlocks", inPlace := ["internal/abi.NoEscape", "internal/bytealg.IndexByteString", "internal/bytealg.IndexString"], unfollowed := true, recurses := true, named := ["ontime/lexer.signs", "internal/strconv.uint64pow10", "math/bits.deBruijn32tab", "math/bits.deBruijn64tab", "ontime/word.operators", "unicode/utf8.first", "unicode/utf8.acceptRanges", "internal/bytealg.MaxLen"], loops := true, apart := false, laid := [("math/bits.deBruijn32tab", laid_math_bits_deBruijn32tab), ("math/bits.deBruijn64tab", laid_math_bits_deBruijn64tab), ("internal/strconv.uint64pow10", laid_internal_strconv_uint64pow10), ("ontime/word.operators", laid_ontime_word_operators), ("unicode/utf8.acceptRanges", laid_unicode_utf8_acceptRanges), ("ontime/lexer.signs", laid_ontime_lexer_signs), ("unicode/utf8.first", laid_unicode_utf8_first)] }
def PrinterBlocksSaid : Prop := printerBlocksRow.holds Tryz.pinned (OpenSpec.ofChange printerBlocksSpec)

/-- ITS FALSE NEIGHBOUR: 'it returns false'. Refute it at one input. -/
def printerBlocksWrong : ChangeSpec := { name := "printerBlocks", fn := fun _ => fun
  | [d1, d2] => { results := [.lit (.bool false)], args := [d1, d2] }
  | _ => none }
def PrinterBlocksWrongFalsely : Prop := printerBlocksRow.holds Tryz.pinned (OpenSpec.ofChange printerBlocksWrong)

/-- 'ontimelaw14.PrinterRound': WHATEVER THE INPUT: true; the input reads as it did. -/
def printerRoundSpec : ChangeSpec := { name := "printerRound", fn := fun _ => fun
  | [d] => { results := [.lit (.bool true)], args := [d] }
  | _ => none }
def printerRoundRow : OpenClaim := { program := "ytfakdbnfpdalhaagreatdoor", sum := "3dcde25b36a225b105327b0156eafb8e648af465b8b7c9941f5fbd9ddc901b39", func := "ontime/ontimelaw14.PrinterRound", spec := "printerRound", inPlace := ["internal/abi.NoEscape", "internal/bytealg.IndexByteString", "internal/bytealg.IndexString"], unfollowed := true, recurses := true, named := ["ontime/lexer.signs", "internal/strconv.uint64pow10", "math/bits.deBruijn32tab", "math/bits.deBruijn64tab", "ontime/word.operators", "unicode/utf8.first", "unicode/utf8.acceptRanges", "internal/bytealg.MaxLen"], loops := true, apart := false, laid := [("math/bits.deBruijn32tab", laid_math_bits_deBruijn32tab), ("math/bits.deBruijn64tab", laid_math_bits_deBruijn64tab), ("internal/strconv.uint64pow10", laid_internal_strconv_uint64pow10), ("ontime/word.operators", laid_ontime_word_operators), ("unicode/utf8.acceptRanges", laid_unicode_utf8_acceptRanges), ("ontime/lexer.signs", laid_ontime_lexer_signs), ("unicode/utf8.first", laid_unicode_utf8_first)] }
def PrinterRoundSaid : Prop := printerRoundRow.holds Tryz.pinned (OpenSpec.ofChange printerRoundSpec)

/-- ITS FALSE NEIGHBOUR: 'it returns false'. Refute it at one input. -/
def printerRoundWrong : ChangeSpec := { name := "printerRound", fn := fun _ => fun
  | [d] => { results := [.lit (.bool false)], args := [d] }
  | _ => none }
def PrinterRoundWrongFalsely : Prop := printerRoundRow.holds Tryz.pinned (OpenSpec.ofChange printerRoundWrong)

/-- 'ontimelaw14.PrinterFixed': WHATEVER THE INPUT: true; the input reads as it did. -/
def printerFixedSpec : ChangeSpec := { name := "printerFixed", fn := fun _ => fun
  | [d] => { results := [.lit (.bool true)], args := [d] }
  | _ => none }
def printerFixedRow : OpenClaim := { program := "ytfakdbnfpdalhaagreatdoor", sum := "3dcde25b36a225b105327b0156eafb8e648af465b8b7c9941f5fbd9ddc901b39", func := "ontime/ontimelaw14.PrinterFixed", spec := "printerFixed", inPlace := ["internal/abi.NoEscape", "internal/bytealg.IndexByteString", "internal/bytealg.IndexString"], unfollowed := true, recurses := true, named := ["ontime/lexer.signs", "internal/strconv.uint64pow10", "math/bits.deBruijn32tab", "math/bits.deBruijn64tab", "ontime/word.operators", "unicode/utf8.first", "unicode/utf8.acceptRanges", "internal/bytealg.MaxLen"], apart := false, laid := [("math/bits.deBruijn32tab", laid_math_bits_deBruijn32tab), ("math/bits.deBruijn64tab", laid_math_bits_deBruijn64tab), ("internal/strconv.uint64pow10", laid_internal_strconv_uint64pow10), ("ontime/word.operators", laid_ontime_word_operators), ("unicode/utf8.acceptRanges", laid_unicode_utf8_acceptRanges), ("ontime/lexer.signs", laid_ontime_lexer_signs), ("unicode/utf8.first", laid_unicode_utf8_first)] }
def PrinterFixedSaid : Prop := printerFixedRow.holds Tryz.pinned (OpenSpec.ofChange printerFixedSpec)

/-- ITS FALSE NEIGHBOUR: 'it returns false'. Refute it at one input. -/
def printerFixedWrong : ChangeSpec := { name := "printerFixed", fn := fun _ => fun
  | [d] => { results := [.lit (.bool false)], args := [d] }
  | _ => none }
def PrinterFixedWrongFalsely : Prop := printerFixedRow.holds Tryz.pinned (OpenSpec.ofChange printerFixedWrong)

/- THE SECOND FORM. 'bulk': how many values and letters a reading holds, each counted each time it is reached (what is shared counts as often as it is met; a slice's spare places count too). A statement '..UptoSaid' is the law's where the arguments, and the package variables that the reading takes, are together of bulk at most 1048576: NARROWER than '..Said'. Prove '..Said' where nothing that the law and all that it calls make is longer than what came in: it says more and counts as full. Else prove '..UptoSaid'. A law counts once. -/
mutual
def uptoBulk {H : Type} : DataW H → Nat
  | .lit (.string bytes) => bytes.length + 1
  | .lit _ => 1
  | .nil => 1
  | .ptr d => uptoBulk d + 1
  | .slice elems spare => uptoBulkAll elems + uptoBulkAll spare + 1
  | .agg parts => uptoBulkAll parts + 1
  | .iface _ d => uptoBulk d + 1
  | .map entries => uptoBulkEntries entries + 1
  | .held _ => 1
def uptoBulkAll {H : Type} : List (DataW H) → Nat
  | [] => 0
  | d :: r => uptoBulk d + uptoBulkAll r
def uptoBulkEntries {H : Type} : List (Lit × DataW H) → Nat
  | [] => 0
  | x :: r => uptoBulkEntry x + uptoBulkEntries r
def uptoBulkEntry {H : Type} : Lit × DataW H → Nat
  | (.string bytes, d) => bytes.length + uptoBulk d + 1
  | (_, d) => uptoBulk d + 1
 end
def uptoSmall : (H : Type) → List (DataW H) → Bool := fun _ ds => decide (uptoBulkAll ds ≤ 1048576)
def OpenSpec.upto (s : _root_.Go.ChangeSpec) : _root_.Go.OpenSpec := { _root_.Go.OpenSpec.ofChange s with cond := some uptoSmall }

/-- 'ontimelaw13.ParserPrograms', WHERE WHAT IT READS IS OF BULK AT MOST 1048576: true; the input reads as it did. -/
def parserProgramsUptoRow : OpenClaim := { program := "ytfakdbnfpdalhaagreatdoor", sum := "3dcde25b36a225b105327b0156eafb8e648af465b8b7c9941f5fbd9ddc901b39", func := "ontime/ontimelaw13.ParserPrograms", spec := "parserPrograms", inPlace := ["internal/bytealg.IndexByteString", "internal/bytealg.IndexString"], unfollowed := true, recurses := true, named := ["ontime/lexer.signs", "ontime/word.operators", "unicode/utf8.first", "unicode/utf8.acceptRanges", "internal/bytealg.MaxLen"], apart := false, laid := [("ontime/word.operators", laid_ontime_word_operators), ("unicode/utf8.acceptRanges", laid_unicode_utf8_acceptRanges), ("ontime/lexer.signs", laid_ontime_lexer_signs), ("unicode/utf8.first", laid_unicode_utf8_first)], narrowed := true }
def ParserProgramsUptoSaid : Prop := parserProgramsUptoRow.holds Tryz.pinned (OpenSpec.upto parserProgramsSpec)

/-- 'ontimelaw13.ParserParts', WHERE WHAT IT READS IS OF BULK AT MOST 1048576: true; the input reads as it did. -/
def parserPartsUptoRow : OpenClaim := { program := "ytfakdbnfpdalhaagreatdoor", sum := "3dcde25b36a225b105327b0156eafb8e648af465b8b7c9941f5fbd9ddc901b39", func := "ontime/ontimelaw13.ParserParts", spec := "parserParts", inPlace := ["internal/bytealg.IndexByteString", "internal/bytealg.IndexString"], unfollowed := true, recurses := true, named := ["ontime/lexer.signs", "ontime/word.operators", "unicode/utf8.first", "unicode/utf8.acceptRanges", "internal/bytealg.MaxLen"], apart := false, laid := [("ontime/word.operators", laid_ontime_word_operators), ("unicode/utf8.acceptRanges", laid_unicode_utf8_acceptRanges), ("ontime/lexer.signs", laid_ontime_lexer_signs), ("unicode/utf8.first", laid_unicode_utf8_first)], narrowed := true }
def ParserPartsUptoSaid : Prop := parserPartsUptoRow.holds Tryz.pinned (OpenSpec.upto parserPartsSpec)

/-- 'ontimelaw14.PrinterBlocks', WHERE WHAT IT READS IS OF BULK AT MOST 1048576: true; the input reads as it did. -/
def printerBlocksUptoRow : OpenClaim := { program := "ytfakdbnfpdalhaagreatdoor", sum := "3dcde25b36a225b105327b0156eafb8e648af465b8b7c9941f5fbd9ddc901b39", func := "ontime/ontimelaw14.PrinterBlocks", spec := "printerBlocks", inPlace := ["internal/abi.NoEscape", "internal/bytealg.IndexByteString", "internal/bytealg.IndexString"], unfollowed := true, recurses := true, named := ["ontime/lexer.signs", "internal/strconv.uint64pow10", "math/bits.deBruijn32tab", "math/bits.deBruijn64tab", "ontime/word.operators", "unicode/utf8.first", "unicode/utf8.acceptRanges", "internal/bytealg.MaxLen"], loops := true, apart := false, laid := [("math/bits.deBruijn32tab", laid_math_bits_deBruijn32tab), ("math/bits.deBruijn64tab", laid_math_bits_deBruijn64tab), ("internal/strconv.uint64pow10", laid_internal_strconv_uint64pow10), ("ontime/word.operators", laid_ontime_word_operators), ("unicode/utf8.acceptRanges", laid_unicode_utf8_acceptRanges), ("ontime/lexer.signs", laid_ontime_lexer_signs), ("unicode/utf8.first", laid_unicode_utf8_first)], narrowed := true }
def PrinterBlocksUptoSaid : Prop := printerBlocksUptoRow.holds Tryz.pinned (OpenSpec.upto printerBlocksSpec)

/-- 'ontimelaw14.PrinterRound', WHERE WHAT IT READS IS OF BULK AT MOST 1048576: true; the input reads as it did. -/
def printerRoundUptoRow : OpenClaim := { program := "ytfakdbnfpdalhaagreatdoor", sum := "3dcde25b36a225b105327b0156eafb8e648af465b8b7c9941f5fbd9ddc901b39", func := "ontime/ontimelaw14.PrinterRound", spec := "printerRound", inPlace := ["internal/abi.NoEscape", "internal/bytealg.IndexByteString", "internal/bytealg.IndexString"], unfollowed := true, recurses := true, named := ["ontime/lexer.signs", "internal/strconv.uint64pow10", "math/bits.deBruijn32tab", "math/bits.deBruijn64tab", "ontime/word.operators", "unicode/utf8.first", "unicode/utf8.acceptRanges", "internal/bytealg.MaxLen"], loops := true, apart := false, laid := [("math/bits.deBruijn32tab", laid_math_bits_deBruijn32tab), ("math/bits.deBruijn64tab", laid_math_bits_deBruijn64tab), ("internal/strconv.uint64pow10", laid_internal_strconv_uint64pow10), ("ontime/word.operators", laid_ontime_word_operators), ("unicode/utf8.acceptRanges", laid_unicode_utf8_acceptRanges), ("ontime/lexer.signs", laid_ontime_lexer_signs), ("unicode/utf8.first", laid_unicode_utf8_first)], narrowed := true }
def PrinterRoundUptoSaid : Prop := printerRoundUptoRow.holds Tryz.pinned (OpenSpec.upto printerRoundSpec)

/-- 'ontimelaw14.PrinterFixed', WHERE WHAT IT READS IS OF BULK AT MOST 1048576: true; the input reads as it did. -/
def printerFixedUptoRow : OpenClaim := { program := "ytfakdbnfpdalhaagreatdoor", sum := "3dcde25b36a225b105327b0156eafb8e648af465b8b7c9941f5fbd9ddc901b39", func := "ontime/ontimelaw14.PrinterFixed", spec := "printerFixed", inPlace := ["internal/abi.NoEscape", "internal/bytealg.IndexByteString", "internal/bytealg.IndexString"], unfollowed := true, recurses := true, named := ["ontime/lexer.signs", "internal/strconv.uint64pow10", "math/bits.deBruijn32tab", "math/bits.deBruijn64tab", "ontime/word.operators", "unicode/utf8.first", "unicode/utf8.acceptRanges", "internal/bytealg.MaxLen"], apart := false, laid := [("math/bits.deBruijn32tab", laid_math_bits_deBruijn32tab), ("math/bits.deBruijn64tab", laid_math_bits_deBruijn64tab), ("internal/strconv.uint64pow10", laid_internal_strconv_uint64pow10), ("ontime/word.operators", laid_ontime_word_operators), ("unicode/utf8.acceptRanges", laid_unicode_utf8_acceptRanges), ("ontime/lexer.signs", laid_ontime_lexer_signs), ("unicode/utf8.first", laid_unicode_utf8_first)], narrowed := true }
def PrinterFixedUptoSaid : Prop := printerFixedUptoRow.holds Tryz.pinned (OpenSpec.upto printerFixedSpec)

end Rows
end Go.Proofs.YtfakdbnfpdalhaaGreatDoor
