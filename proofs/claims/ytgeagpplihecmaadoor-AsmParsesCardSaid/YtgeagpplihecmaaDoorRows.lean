/-
  NARROWER THAN 'FOR EVERY INPUT', by the rows' own cells (each row's printed sentence says how): AsmFormats: laid · AsmParses: laid · AsmText: laid · AsmComments: laid · AsmFixed: laid · AsmJoins: laid · AsmWords: laid · AsmDecodes: laid · AsmFull: laid.
  DERIVED. THE GIVEN ROWS OF THIS SEAT. 9 by the template 'for every input the law returns true; each argument reads behind the call as it read before'; 0 by the template 'total and deterministic' (their statements: YtgeagpplihecmaaDoorTotals.lean).
  GIVEN WITH THE SEED: the statements are not yours to turn. If you find one false, say at which input.
  Laid BY PROGRAM, IN A SANDBOX (cutbox-rows.mjs): the forced cells as the released guide's own fill.sh prints them over the translation 6ae78d112e8327ff… (all of the seat's roots in one cut). By AI agents, Wed Nov 11 2026. No macro, syntax, notation, axiom, sorry.
-/
import Derived.Test.YtgeagpplihecmaaDoorChecked
import GoSem.PinnedTables
import GoSem.Claim
import GoSem.ClaimJoined
import GoSem.ClaimMapViews
import Derived.JoinedTies
import Derived.KernelRfl
namespace Go.Proofs.YtgeagpplihecmaaDoor
/- THE CELL 'sum', in the pinned program and in every row, IS THE sha256 OF THE DUMP (.gsa) THAT YtgeagpplihecmaaDoorProg.lean LOADS. Nothing in Lean hashes anything: it is a label: what it is worth is what the hold of that sum in a sandbox is worth. -/
noncomputable def Tryd.pinned : Pinned := { name := "ytgeagpplihecmaadoor", sum := "6ae78d112e8327ff692f816d456c8b0041a656398ca8dd1665c007f745b89a5f", checked := Tryd.checked }
namespace Rows
def none {H : Type} : Left H := { results := [], args := [] }

/- WHAT THE LISTED PACKAGE-LEVEL VARIABLES READ AS WHEN THE CALL BEGINS. Each datum BY PROGRAM (the guide's laid-datum.mjs) off the statement by which the dump's own 'gosem.cut.vars' lays the variable. In a bare row this is a premise. The card (YtgeagpplihecmaaDoorCards.lean) ties it to the program's text. -/
def laid_math_bits_deBruijn32tab {H : Type} : DataW H := .agg [.lit (.int .u8 0), .lit (.int .u8 1), .lit (.int .u8 28), .lit (.int .u8 2), .lit (.int .u8 29), .lit (.int .u8 14), .lit (.int .u8 24), .lit (.int .u8 3), .lit (.int .u8 30), .lit (.int .u8 22), .lit (.int .u8 20), .lit (.int .u8 15), .lit (.int .u8 25), .lit (.int .u8 17), .lit (.int .u8 4), .lit (.int .u8 8), .lit (.int .u8 31), .lit (.int .u8 27), .lit (.int .u8 13), .lit (.int .u8 23), .lit (.int .u8 21), .lit (.int .u8 19), .lit (.int .u8 16), .lit (.int .u8 7), .lit (.int .u8 26), .lit (.int .u8 12), .lit (.int .u8 18), .lit (.int .u8 6), .lit (.int .u8 11), .lit (.int .u8 5), .lit (.int .u8 10), .lit (.int .u8 9)]
def laid_math_bits_deBruijn64tab {H : Type} : DataW H := .agg [.lit (.int .u8 0), .lit (.int .u8 1), .lit (.int .u8 56), .lit (.int .u8 2), .lit (.int .u8 57), .lit (.int .u8 49), .lit (.int .u8 28), .lit (.int .u8 3), .lit (.int .u8 61), .lit (.int .u8 58), .lit (.int .u8 42), .lit (.int .u8 50), .lit (.int .u8 38), .lit (.int .u8 29), .lit (.int .u8 17), .lit (.int .u8 4), .lit (.int .u8 62), .lit (.int .u8 47), .lit (.int .u8 59), .lit (.int .u8 36), .lit (.int .u8 45), .lit (.int .u8 43), .lit (.int .u8 51), .lit (.int .u8 22), .lit (.int .u8 53), .lit (.int .u8 39), .lit (.int .u8 33), .lit (.int .u8 30), .lit (.int .u8 24), .lit (.int .u8 18), .lit (.int .u8 12), .lit (.int .u8 5), .lit (.int .u8 63), .lit (.int .u8 55), .lit (.int .u8 48), .lit (.int .u8 27), .lit (.int .u8 60), .lit (.int .u8 41), .lit (.int .u8 37), .lit (.int .u8 16), .lit (.int .u8 46), .lit (.int .u8 35), .lit (.int .u8 44), .lit (.int .u8 21), .lit (.int .u8 52), .lit (.int .u8 32), .lit (.int .u8 23), .lit (.int .u8 11), .lit (.int .u8 54), .lit (.int .u8 26), .lit (.int .u8 40), .lit (.int .u8 15), .lit (.int .u8 34), .lit (.int .u8 20), .lit (.int .u8 31), .lit (.int .u8 10), .lit (.int .u8 25), .lit (.int .u8 14), .lit (.int .u8 19), .lit (.int .u8 9), .lit (.int .u8 13), .lit (.int .u8 8), .lit (.int .u8 7), .lit (.int .u8 6)]
def laid_internal_strconv_uint64pow10 {H : Type} : DataW H := .agg [.lit (.int .u64 1), .lit (.int .u64 10), .lit (.int .u64 100), .lit (.int .u64 1000), .lit (.int .u64 10000), .lit (.int .u64 100000), .lit (.int .u64 1000000), .lit (.int .u64 10000000), .lit (.int .u64 100000000), .lit (.int .u64 1000000000), .lit (.int .u64 10000000000), .lit (.int .u64 100000000000), .lit (.int .u64 1000000000000), .lit (.int .u64 10000000000000), .lit (.int .u64 100000000000000), .lit (.int .u64 1000000000000000), .lit (.int .u64 10000000000000000), .lit (.int .u64 100000000000000000), .lit (.int .u64 1000000000000000000), .lit (.int .u64 10000000000000000000)]
def laid_unicode_utf8_acceptRanges {H : Type} : DataW H := .agg [.agg [.lit (.int .u8 128), .lit (.int .u8 191)], .agg [.lit (.int .u8 160), .lit (.int .u8 191)], .agg [.lit (.int .u8 128), .lit (.int .u8 159)], .agg [.lit (.int .u8 144), .lit (.int .u8 191)], .agg [.lit (.int .u8 128), .lit (.int .u8 143)], .agg [.lit (.int .u8 0), .lit (.int .u8 0)], .agg [.lit (.int .u8 0), .lit (.int .u8 0)], .agg [.lit (.int .u8 0), .lit (.int .u8 0)], .agg [.lit (.int .u8 0), .lit (.int .u8 0)], .agg [.lit (.int .u8 0), .lit (.int .u8 0)], .agg [.lit (.int .u8 0), .lit (.int .u8 0)], .agg [.lit (.int .u8 0), .lit (.int .u8 0)], .agg [.lit (.int .u8 0), .lit (.int .u8 0)], .agg [.lit (.int .u8 0), .lit (.int .u8 0)], .agg [.lit (.int .u8 0), .lit (.int .u8 0)], .agg [.lit (.int .u8 0), .lit (.int .u8 0)]]
def laid_ontime_isa_formats {H : Type} : DataW H := .agg [.agg [.lit (.string [110, 111, 112]), .lit (.string []), .lit (.string []), .lit (.bool false), .lit (.int .i64 0), .lit (.int .i64 0)], .agg [.lit (.string [104, 97, 108, 116]), .lit (.string []), .lit (.string []), .lit (.bool false), .lit (.int .i64 0), .lit (.int .i64 0)], .agg [.lit (.string [97, 100, 100]), .lit (.string [65, 66, 67]), .lit (.string [66, 67]), .lit (.bool true), .lit (.int .i64 0), .lit (.int .i64 0)], .agg [.lit (.string [115, 117, 98]), .lit (.string [65, 66, 67]), .lit (.string [66, 67]), .lit (.bool true), .lit (.int .i64 0), .lit (.int .i64 0)], .agg [.lit (.string [109, 117, 108]), .lit (.string [65, 66, 67]), .lit (.string [66, 67]), .lit (.bool true), .lit (.int .i64 0), .lit (.int .i64 0)], .agg [.lit (.string [100, 105, 118]), .lit (.string [65, 66, 67]), .lit (.string [66, 67]), .lit (.bool true), .lit (.int .i64 0), .lit (.int .i64 0)], .agg [.lit (.string [109, 111, 100]), .lit (.string [65, 66, 67]), .lit (.string [66, 67]), .lit (.bool true), .lit (.int .i64 0), .lit (.int .i64 0)], .agg [.lit (.string [97, 110, 100]), .lit (.string [65, 66, 67]), .lit (.string [66, 67]), .lit (.bool true), .lit (.int .i64 0), .lit (.int .i64 0)], .agg [.lit (.string [111, 114]), .lit (.string [65, 66, 67]), .lit (.string [66, 67]), .lit (.bool true), .lit (.int .i64 0), .lit (.int .i64 0)], .agg [.lit (.string [120, 111, 114]), .lit (.string [65, 66, 67]), .lit (.string [66, 67]), .lit (.bool true), .lit (.int .i64 0), .lit (.int .i64 0)], .agg [.lit (.string [115, 104, 108]), .lit (.string [65, 66, 67]), .lit (.string [66, 67]), .lit (.bool true), .lit (.int .i64 0), .lit (.int .i64 0)], .agg [.lit (.string [115, 104, 114]), .lit (.string [65, 66, 67]), .lit (.string [66, 67]), .lit (.bool true), .lit (.int .i64 0), .lit (.int .i64 0)], .agg [.lit (.string [101, 113]), .lit (.string [65, 66, 67]), .lit (.string [66, 67]), .lit (.bool true), .lit (.int .i64 0), .lit (.int .i64 0)], .agg [.lit (.string [108, 116]), .lit (.string [65, 66, 67]), .lit (.string [66, 67]), .lit (.bool true), .lit (.int .i64 0), .lit (.int .i64 0)], .agg [.lit (.string [108, 105]), .lit (.string [65, 73]), .lit (.string []), .lit (.bool true), .lit (.int .i64 (-131072)), .lit (.int .i64 131071)], .agg [.lit (.string [97, 100, 100, 105]), .lit (.string [65, 66, 73]), .lit (.string [66]), .lit (.bool true), .lit (.int .i64 (-131072)), .lit (.int .i64 131071)], .agg [.lit (.string [115, 104, 108, 105]), .lit (.string [65, 66, 73]), .lit (.string [66]), .lit (.bool true), .lit (.int .i64 0), .lit (.int .i64 31)], .agg [.lit (.string [111, 114, 105]), .lit (.string [65, 66, 73]), .lit (.string [66]), .lit (.bool true), .lit (.int .i64 0), .lit (.int .i64 16383)], .agg [.lit (.string [108, 100]), .lit (.string [65, 66, 73]), .lit (.string [66]), .lit (.bool true), .lit (.int .i64 (-131072)), .lit (.int .i64 131071)], .agg [.lit (.string [115, 116]), .lit (.string [65, 66, 73]), .lit (.string [65, 66]), .lit (.bool false), .lit (.int .i64 (-131072)), .lit (.int .i64 131071)], .agg [.lit (.string [108, 100, 115]), .lit (.string [65, 66, 73]), .lit (.string [66]), .lit (.bool true), .lit (.int .i64 (-131072)), .lit (.int .i64 131071)], .agg [.lit (.string [115, 116, 115]), .lit (.string [65, 66, 73]), .lit (.string [65, 66]), .lit (.bool false), .lit (.int .i64 (-131072)), .lit (.int .i64 131071)], .agg [.lit (.string [98, 101, 113, 122]), .lit (.string [65, 73]), .lit (.string [65]), .lit (.bool false), .lit (.int .i64 (-131072)), .lit (.int .i64 131071)], .agg [.lit (.string [98, 110, 101, 122]), .lit (.string [65, 73]), .lit (.string [65]), .lit (.bool false), .lit (.int .i64 (-131072)), .lit (.int .i64 131071)], .agg [.lit (.string [106, 109, 112]), .lit (.string [73]), .lit (.string []), .lit (.bool false), .lit (.int .i64 (-131072)), .lit (.int .i64 131071)], .agg [.lit (.string [98, 111, 117, 110, 100]), .lit (.string [65, 73]), .lit (.string [65]), .lit (.bool false), .lit (.int .i64 1), .lit (.int .i64 131071)], .agg [.lit (.string [105, 110]), .lit (.string [65, 73]), .lit (.string []), .lit (.bool true), .lit (.int .i64 0), .lit (.int .i64 7)], .agg [.lit (.string [111, 117, 116]), .lit (.string [65, 73]), .lit (.string [65]), .lit (.bool false), .lit (.int .i64 0), .lit (.int .i64 7)], .agg [.lit (.string [108, 111, 99, 107]), .lit (.string [73]), .lit (.string []), .lit (.bool false), .lit (.int .i64 0), .lit (.int .i64 3)], .agg [.lit (.string [117, 110, 108, 111, 99, 107]), .lit (.string [73]), .lit (.string []), .lit (.bool false), .lit (.int .i64 0), .lit (.int .i64 3)]]
/-- One of Go's own tables, pinned by name: the form's constant. -/
def laid_unicode_utf8_first : DataW Unit := Go.Pinned.utf8First

/-- 'ontimelaw05.AsmFormats': WHATEVER THE INPUT: true; the input reads as it did. -/
def asmFormatsSpec : ChangeSpec := { name := "asmFormats", fn := fun _ => fun
  | [d] => { results := [.lit (.bool true)], args := [d] }
  | _ => none }
def asmFormatsRow : OpenClaim := { program := "ytgeagpplihecmaadoor", sum := "6ae78d112e8327ff692f816d456c8b0041a656398ca8dd1665c007f745b89a5f", func := "ontime/ontimelaw05.AsmFormats", spec := "asmFormats", inPlace := ["internal/bytealg.IndexByteString", "internal/abi.NoEscape", "internal/bytealg.CountString", "internal/bytealg.IndexString"], unfollowed := true, recurses := true, named := ["ontime/isa.formats", "internal/strconv.uint64pow10", "math/bits.deBruijn32tab", "math/bits.deBruijn64tab", "unicode/utf8.first", "unicode/utf8.acceptRanges", "internal/bytealg.MaxLen"], apart := false, laid := [("math/bits.deBruijn32tab", laid_math_bits_deBruijn32tab), ("math/bits.deBruijn64tab", laid_math_bits_deBruijn64tab), ("internal/strconv.uint64pow10", laid_internal_strconv_uint64pow10), ("unicode/utf8.acceptRanges", laid_unicode_utf8_acceptRanges), ("ontime/isa.formats", laid_ontime_isa_formats), ("unicode/utf8.first", laid_unicode_utf8_first)] }
def AsmFormatsSaid : Prop := asmFormatsRow.holds Tryd.pinned (OpenSpec.ofChange asmFormatsSpec)

/-- ITS FALSE NEIGHBOUR: 'it returns false'. Refute it at one input. -/
def asmFormatsWrong : ChangeSpec := { name := "asmFormats", fn := fun _ => fun
  | [d] => { results := [.lit (.bool false)], args := [d] }
  | _ => none }
def AsmFormatsWrongFalsely : Prop := asmFormatsRow.holds Tryd.pinned (OpenSpec.ofChange asmFormatsWrong)

/-- 'ontimelaw05.AsmParses': WHATEVER THE INPUT: true; the input reads as it did. -/
def asmParsesSpec : ChangeSpec := { name := "asmParses", fn := fun _ => fun
  | [d] => { results := [.lit (.bool true)], args := [d] }
  | _ => none }
def asmParsesRow : OpenClaim := { program := "ytgeagpplihecmaadoor", sum := "6ae78d112e8327ff692f816d456c8b0041a656398ca8dd1665c007f745b89a5f", func := "ontime/ontimelaw05.AsmParses", spec := "asmParses", inPlace := ["internal/bytealg.IndexByteString", "internal/abi.NoEscape", "internal/bytealg.CountString", "internal/bytealg.IndexString"], unfollowed := true, recurses := true, named := ["ontime/isa.formats", "internal/strconv.uint64pow10", "math/bits.deBruijn32tab", "math/bits.deBruijn64tab", "unicode/utf8.first", "unicode/utf8.acceptRanges", "internal/bytealg.MaxLen"], apart := false, laid := [("math/bits.deBruijn32tab", laid_math_bits_deBruijn32tab), ("math/bits.deBruijn64tab", laid_math_bits_deBruijn64tab), ("internal/strconv.uint64pow10", laid_internal_strconv_uint64pow10), ("unicode/utf8.acceptRanges", laid_unicode_utf8_acceptRanges), ("ontime/isa.formats", laid_ontime_isa_formats), ("unicode/utf8.first", laid_unicode_utf8_first)] }
def AsmParsesSaid : Prop := asmParsesRow.holds Tryd.pinned (OpenSpec.ofChange asmParsesSpec)

/-- ITS FALSE NEIGHBOUR: 'it returns false'. Refute it at one input. -/
def asmParsesWrong : ChangeSpec := { name := "asmParses", fn := fun _ => fun
  | [d] => { results := [.lit (.bool false)], args := [d] }
  | _ => none }
def AsmParsesWrongFalsely : Prop := asmParsesRow.holds Tryd.pinned (OpenSpec.ofChange asmParsesWrong)

/-- 'ontimelaw05.AsmText': WHATEVER THE INPUT: true; the input reads as it did. -/
def asmTextSpec : ChangeSpec := { name := "asmText", fn := fun _ => fun
  | [d1, d2] => { results := [.lit (.bool true)], args := [d1, d2] }
  | _ => none }
def asmTextRow : OpenClaim := { program := "ytgeagpplihecmaadoor", sum := "6ae78d112e8327ff692f816d456c8b0041a656398ca8dd1665c007f745b89a5f", func := "ontime/ontimelaw05.AsmText", spec := "asmText", inPlace := ["internal/bytealg.IndexByteString", "internal/abi.NoEscape", "internal/bytealg.CountString", "internal/bytealg.IndexString"], unfollowed := true, recurses := true, named := ["ontime/isa.formats", "internal/strconv.uint64pow10", "math/bits.deBruijn32tab", "math/bits.deBruijn64tab", "unicode/utf8.first", "unicode/utf8.acceptRanges", "internal/bytealg.MaxLen"], apart := false, laid := [("math/bits.deBruijn32tab", laid_math_bits_deBruijn32tab), ("math/bits.deBruijn64tab", laid_math_bits_deBruijn64tab), ("internal/strconv.uint64pow10", laid_internal_strconv_uint64pow10), ("unicode/utf8.acceptRanges", laid_unicode_utf8_acceptRanges), ("ontime/isa.formats", laid_ontime_isa_formats), ("unicode/utf8.first", laid_unicode_utf8_first)] }
def AsmTextSaid : Prop := asmTextRow.holds Tryd.pinned (OpenSpec.ofChange asmTextSpec)

/-- ITS FALSE NEIGHBOUR: 'it returns false'. Refute it at one input. -/
def asmTextWrong : ChangeSpec := { name := "asmText", fn := fun _ => fun
  | [d1, d2] => { results := [.lit (.bool false)], args := [d1, d2] }
  | _ => none }
def AsmTextWrongFalsely : Prop := asmTextRow.holds Tryd.pinned (OpenSpec.ofChange asmTextWrong)

/-- 'ontimelaw05.AsmComments': WHATEVER THE INPUT: true; the input reads as it did. -/
def asmCommentsSpec : ChangeSpec := { name := "asmComments", fn := fun _ => fun
  | [d] => { results := [.lit (.bool true)], args := [d] }
  | _ => none }
def asmCommentsRow : OpenClaim := { program := "ytgeagpplihecmaadoor", sum := "6ae78d112e8327ff692f816d456c8b0041a656398ca8dd1665c007f745b89a5f", func := "ontime/ontimelaw05.AsmComments", spec := "asmComments", inPlace := ["internal/bytealg.IndexByteString", "internal/abi.NoEscape", "internal/bytealg.CountString", "internal/bytealg.IndexString"], unfollowed := true, recurses := true, named := ["ontime/isa.formats", "internal/strconv.uint64pow10", "math/bits.deBruijn32tab", "math/bits.deBruijn64tab", "unicode/utf8.first", "unicode/utf8.acceptRanges", "internal/bytealg.MaxLen"], apart := false, laid := [("math/bits.deBruijn32tab", laid_math_bits_deBruijn32tab), ("math/bits.deBruijn64tab", laid_math_bits_deBruijn64tab), ("internal/strconv.uint64pow10", laid_internal_strconv_uint64pow10), ("unicode/utf8.acceptRanges", laid_unicode_utf8_acceptRanges), ("ontime/isa.formats", laid_ontime_isa_formats), ("unicode/utf8.first", laid_unicode_utf8_first)] }
def AsmCommentsSaid : Prop := asmCommentsRow.holds Tryd.pinned (OpenSpec.ofChange asmCommentsSpec)

/-- ITS FALSE NEIGHBOUR: 'it returns false'. Refute it at one input. -/
def asmCommentsWrong : ChangeSpec := { name := "asmComments", fn := fun _ => fun
  | [d] => { results := [.lit (.bool false)], args := [d] }
  | _ => none }
def AsmCommentsWrongFalsely : Prop := asmCommentsRow.holds Tryd.pinned (OpenSpec.ofChange asmCommentsWrong)

/-- 'ontimelaw05.AsmFixed': WHATEVER THE INPUT: true; the input reads as it did. -/
def asmFixedSpec : ChangeSpec := { name := "asmFixed", fn := fun _ => fun
  | [d] => { results := [.lit (.bool true)], args := [d] }
  | _ => none }
def asmFixedRow : OpenClaim := { program := "ytgeagpplihecmaadoor", sum := "6ae78d112e8327ff692f816d456c8b0041a656398ca8dd1665c007f745b89a5f", func := "ontime/ontimelaw05.AsmFixed", spec := "asmFixed", inPlace := ["internal/bytealg.IndexByteString", "internal/abi.NoEscape", "internal/bytealg.CountString", "internal/bytealg.IndexString"], unfollowed := true, recurses := true, named := ["ontime/isa.formats", "internal/strconv.uint64pow10", "math/bits.deBruijn32tab", "math/bits.deBruijn64tab", "unicode/utf8.first", "unicode/utf8.acceptRanges", "internal/bytealg.MaxLen"], apart := false, laid := [("math/bits.deBruijn32tab", laid_math_bits_deBruijn32tab), ("math/bits.deBruijn64tab", laid_math_bits_deBruijn64tab), ("internal/strconv.uint64pow10", laid_internal_strconv_uint64pow10), ("unicode/utf8.acceptRanges", laid_unicode_utf8_acceptRanges), ("ontime/isa.formats", laid_ontime_isa_formats), ("unicode/utf8.first", laid_unicode_utf8_first)] }
def AsmFixedSaid : Prop := asmFixedRow.holds Tryd.pinned (OpenSpec.ofChange asmFixedSpec)

/-- ITS FALSE NEIGHBOUR: 'it returns false'. Refute it at one input. -/
def asmFixedWrong : ChangeSpec := { name := "asmFixed", fn := fun _ => fun
  | [d] => { results := [.lit (.bool false)], args := [d] }
  | _ => none }
def AsmFixedWrongFalsely : Prop := asmFixedRow.holds Tryd.pinned (OpenSpec.ofChange asmFixedWrong)

/-- 'ontimelaw05.AsmJoins': WHATEVER THE INPUT: true; the input reads as it did. -/
def asmJoinsSpec : ChangeSpec := { name := "asmJoins", fn := fun _ => fun
  | [d1, d2] => { results := [.lit (.bool true)], args := [d1, d2] }
  | _ => none }
def asmJoinsRow : OpenClaim := { program := "ytgeagpplihecmaadoor", sum := "6ae78d112e8327ff692f816d456c8b0041a656398ca8dd1665c007f745b89a5f", func := "ontime/ontimelaw05.AsmJoins", spec := "asmJoins", inPlace := ["internal/bytealg.IndexByteString", "internal/abi.NoEscape", "internal/bytealg.CountString", "internal/bytealg.IndexString"], unfollowed := true, recurses := true, named := ["ontime/isa.formats", "internal/strconv.uint64pow10", "math/bits.deBruijn32tab", "math/bits.deBruijn64tab", "unicode/utf8.first", "unicode/utf8.acceptRanges", "internal/bytealg.MaxLen"], apart := false, laid := [("math/bits.deBruijn32tab", laid_math_bits_deBruijn32tab), ("math/bits.deBruijn64tab", laid_math_bits_deBruijn64tab), ("internal/strconv.uint64pow10", laid_internal_strconv_uint64pow10), ("unicode/utf8.acceptRanges", laid_unicode_utf8_acceptRanges), ("ontime/isa.formats", laid_ontime_isa_formats), ("unicode/utf8.first", laid_unicode_utf8_first)] }
def AsmJoinsSaid : Prop := asmJoinsRow.holds Tryd.pinned (OpenSpec.ofChange asmJoinsSpec)

/-- ITS FALSE NEIGHBOUR: 'it returns false'. Refute it at one input. -/
def asmJoinsWrong : ChangeSpec := { name := "asmJoins", fn := fun _ => fun
  | [d1, d2] => { results := [.lit (.bool false)], args := [d1, d2] }
  | _ => none }
def AsmJoinsWrongFalsely : Prop := asmJoinsRow.holds Tryd.pinned (OpenSpec.ofChange asmJoinsWrong)

/-- 'ontimelaw05.AsmWords': WHATEVER THE INPUT: true; the input reads as it did. -/
def asmWordsSpec : ChangeSpec := { name := "asmWords", fn := fun _ => fun
  | [d] => { results := [.lit (.bool true)], args := [d] }
  | _ => none }
def asmWordsRow : OpenClaim := { program := "ytgeagpplihecmaadoor", sum := "6ae78d112e8327ff692f816d456c8b0041a656398ca8dd1665c007f745b89a5f", func := "ontime/ontimelaw05.AsmWords", spec := "asmWords", inPlace := ["internal/bytealg.IndexByteString", "internal/abi.NoEscape", "internal/bytealg.CountString", "internal/bytealg.IndexString"], unfollowed := true, recurses := true, named := ["ontime/isa.formats", "internal/strconv.uint64pow10", "math/bits.deBruijn32tab", "math/bits.deBruijn64tab", "unicode/utf8.first", "unicode/utf8.acceptRanges", "internal/bytealg.MaxLen"], apart := false, laid := [("math/bits.deBruijn32tab", laid_math_bits_deBruijn32tab), ("math/bits.deBruijn64tab", laid_math_bits_deBruijn64tab), ("internal/strconv.uint64pow10", laid_internal_strconv_uint64pow10), ("unicode/utf8.acceptRanges", laid_unicode_utf8_acceptRanges), ("ontime/isa.formats", laid_ontime_isa_formats), ("unicode/utf8.first", laid_unicode_utf8_first)] }
def AsmWordsSaid : Prop := asmWordsRow.holds Tryd.pinned (OpenSpec.ofChange asmWordsSpec)

/-- ITS FALSE NEIGHBOUR: 'it returns false'. Refute it at one input. -/
def asmWordsWrong : ChangeSpec := { name := "asmWords", fn := fun _ => fun
  | [d] => { results := [.lit (.bool false)], args := [d] }
  | _ => none }
def AsmWordsWrongFalsely : Prop := asmWordsRow.holds Tryd.pinned (OpenSpec.ofChange asmWordsWrong)

/-- 'ontimelaw05.AsmDecodes': WHATEVER THE INPUT: true; the input reads as it did. -/
def asmDecodesSpec : ChangeSpec := { name := "asmDecodes", fn := fun _ => fun
  | [d] => { results := [.lit (.bool true)], args := [d] }
  | _ => none }
def asmDecodesRow : OpenClaim := { program := "ytgeagpplihecmaadoor", sum := "6ae78d112e8327ff692f816d456c8b0041a656398ca8dd1665c007f745b89a5f", func := "ontime/ontimelaw05.AsmDecodes", spec := "asmDecodes", inPlace := ["internal/bytealg.IndexByteString", "internal/abi.NoEscape", "internal/bytealg.CountString", "internal/bytealg.IndexString"], unfollowed := true, recurses := true, named := ["ontime/isa.formats", "internal/strconv.uint64pow10", "math/bits.deBruijn32tab", "math/bits.deBruijn64tab", "unicode/utf8.first", "unicode/utf8.acceptRanges", "internal/bytealg.MaxLen"], apart := false, laid := [("math/bits.deBruijn32tab", laid_math_bits_deBruijn32tab), ("math/bits.deBruijn64tab", laid_math_bits_deBruijn64tab), ("internal/strconv.uint64pow10", laid_internal_strconv_uint64pow10), ("unicode/utf8.acceptRanges", laid_unicode_utf8_acceptRanges), ("ontime/isa.formats", laid_ontime_isa_formats), ("unicode/utf8.first", laid_unicode_utf8_first)] }
def AsmDecodesSaid : Prop := asmDecodesRow.holds Tryd.pinned (OpenSpec.ofChange asmDecodesSpec)

/-- ITS FALSE NEIGHBOUR: 'it returns false'. Refute it at one input. -/
def asmDecodesWrong : ChangeSpec := { name := "asmDecodes", fn := fun _ => fun
  | [d] => { results := [.lit (.bool false)], args := [d] }
  | _ => none }
def AsmDecodesWrongFalsely : Prop := asmDecodesRow.holds Tryd.pinned (OpenSpec.ofChange asmDecodesWrong)

/-- 'ontimelaw05.AsmFull': WHATEVER THE INPUT: true; the input reads as it did. -/
def asmFullSpec : ChangeSpec := { name := "asmFull", fn := fun _ => fun
  | [d] => { results := [.lit (.bool true)], args := [d] }
  | _ => none }
def asmFullRow : OpenClaim := { program := "ytgeagpplihecmaadoor", sum := "6ae78d112e8327ff692f816d456c8b0041a656398ca8dd1665c007f745b89a5f", func := "ontime/ontimelaw05.AsmFull", spec := "asmFull", inPlace := ["internal/bytealg.IndexByteString", "internal/abi.NoEscape", "internal/bytealg.CountString", "internal/bytealg.IndexString"], unfollowed := true, recurses := true, named := ["ontime/isa.formats", "internal/strconv.uint64pow10", "math/bits.deBruijn32tab", "math/bits.deBruijn64tab", "unicode/utf8.first", "unicode/utf8.acceptRanges", "internal/bytealg.MaxLen"], apart := false, laid := [("math/bits.deBruijn32tab", laid_math_bits_deBruijn32tab), ("math/bits.deBruijn64tab", laid_math_bits_deBruijn64tab), ("internal/strconv.uint64pow10", laid_internal_strconv_uint64pow10), ("unicode/utf8.acceptRanges", laid_unicode_utf8_acceptRanges), ("ontime/isa.formats", laid_ontime_isa_formats), ("unicode/utf8.first", laid_unicode_utf8_first)] }
def AsmFullSaid : Prop := asmFullRow.holds Tryd.pinned (OpenSpec.ofChange asmFullSpec)

/-- ITS FALSE NEIGHBOUR: 'it returns false'. Refute it at one input. -/
def asmFullWrong : ChangeSpec := { name := "asmFull", fn := fun _ => fun
  | [d] => { results := [.lit (.bool false)], args := [d] }
  | _ => none }
def AsmFullWrongFalsely : Prop := asmFullRow.holds Tryd.pinned (OpenSpec.ofChange asmFullWrong)

/- THE SECOND FORM. 'bulk': how many values and letters a reading holds, each counted each time it is reached (what is shared counts as often as it is met; a slice's spare places count too). A statement '..UptoSaid' is the law's where the arguments, and the package variables that the reading takes, are together of bulk at most 1048576: NARROWER than '..Said'. Prove '..Said' where nothing that the law and all that it calls make is longer than what came in: it says more and counts as full. Else prove '..UptoSaid'. A law counts once. -/
mutual
def uptoBulk {H : Type} : DataW H → Nat
  | .lit (.string bytes) => bytes.length + 1
  | .lit _ => 1
  | .nil => 1
  | .ptr d => uptoBulk d + 1
  | .slice elems spare => uptoBulkAll elems + uptoBulkAll spare + 1
  | .agg parts => uptoBulkAll parts + 1
  | .iface _ d => uptoBulk d + 1
  | .map entries => uptoBulkEntries entries + 1
  | .held _ => 1
def uptoBulkAll {H : Type} : List (DataW H) → Nat
  | [] => 0
  | d :: r => uptoBulk d + uptoBulkAll r
def uptoBulkEntries {H : Type} : List (Lit × DataW H) → Nat
  | [] => 0
  | x :: r => uptoBulkEntry x + uptoBulkEntries r
def uptoBulkEntry {H : Type} : Lit × DataW H → Nat
  | (.string bytes, d) => bytes.length + uptoBulk d + 1
  | (_, d) => uptoBulk d + 1
 end
def uptoSmall : (H : Type) → List (DataW H) → Bool := fun _ ds => decide (uptoBulkAll ds ≤ 1048576)
def OpenSpec.upto (s : _root_.Go.ChangeSpec) : _root_.Go.OpenSpec := { _root_.Go.OpenSpec.ofChange s with cond := some uptoSmall }

/-- 'ontimelaw05.AsmFormats', WHERE WHAT IT READS IS OF BULK AT MOST 1048576: true; the input reads as it did. -/
def asmFormatsUptoRow : OpenClaim := { program := "ytgeagpplihecmaadoor", sum := "6ae78d112e8327ff692f816d456c8b0041a656398ca8dd1665c007f745b89a5f", func := "ontime/ontimelaw05.AsmFormats", spec := "asmFormats", inPlace := ["internal/bytealg.IndexByteString", "internal/abi.NoEscape", "internal/bytealg.CountString", "internal/bytealg.IndexString"], unfollowed := true, recurses := true, named := ["ontime/isa.formats", "internal/strconv.uint64pow10", "math/bits.deBruijn32tab", "math/bits.deBruijn64tab", "unicode/utf8.first", "unicode/utf8.acceptRanges", "internal/bytealg.MaxLen"], apart := false, laid := [("math/bits.deBruijn32tab", laid_math_bits_deBruijn32tab), ("math/bits.deBruijn64tab", laid_math_bits_deBruijn64tab), ("internal/strconv.uint64pow10", laid_internal_strconv_uint64pow10), ("unicode/utf8.acceptRanges", laid_unicode_utf8_acceptRanges), ("ontime/isa.formats", laid_ontime_isa_formats), ("unicode/utf8.first", laid_unicode_utf8_first)], narrowed := true }
def AsmFormatsUptoSaid : Prop := asmFormatsUptoRow.holds Tryd.pinned (OpenSpec.upto asmFormatsSpec)

/-- 'ontimelaw05.AsmParses', WHERE WHAT IT READS IS OF BULK AT MOST 1048576: true; the input reads as it did. -/
def asmParsesUptoRow : OpenClaim := { program := "ytgeagpplihecmaadoor", sum := "6ae78d112e8327ff692f816d456c8b0041a656398ca8dd1665c007f745b89a5f", func := "ontime/ontimelaw05.AsmParses", spec := "asmParses", inPlace := ["internal/bytealg.IndexByteString", "internal/abi.NoEscape", "internal/bytealg.CountString", "internal/bytealg.IndexString"], unfollowed := true, recurses := true, named := ["ontime/isa.formats", "internal/strconv.uint64pow10", "math/bits.deBruijn32tab", "math/bits.deBruijn64tab", "unicode/utf8.first", "unicode/utf8.acceptRanges", "internal/bytealg.MaxLen"], apart := false, laid := [("math/bits.deBruijn32tab", laid_math_bits_deBruijn32tab), ("math/bits.deBruijn64tab", laid_math_bits_deBruijn64tab), ("internal/strconv.uint64pow10", laid_internal_strconv_uint64pow10), ("unicode/utf8.acceptRanges", laid_unicode_utf8_acceptRanges), ("ontime/isa.formats", laid_ontime_isa_formats), ("unicode/utf8.first", laid_unicode_utf8_first)], narrowed := true }
def AsmParsesUptoSaid : Prop := asmParsesUptoRow.holds Tryd.pinned (OpenSpec.upto asmParsesSpec)

/-- 'ontimelaw05.AsmText', WHERE WHAT IT READS IS OF BULK AT MOST 1048576: true; the input reads as it did. -/
def asmTextUptoRow : OpenClaim := { program := "ytgeagpplihecmaadoor", sum := "6ae78d112e8327ff692f816d456c8b0041a656398ca8dd1665c007f745b89a5f", func := "ontime/ontimelaw05.AsmText", spec := "asmText", inPlace := ["internal/bytealg.IndexByteString", "internal/abi.NoEscape", "internal/bytealg.CountString", "internal/bytealg.IndexString"], unfollowed := true, recurses := true, named := ["ontime/isa.formats", "internal/strconv.uint64pow10", "math/bits.deBruijn32tab", "math/bits.deBruijn64tab", "unicode/utf8.first", "unicode/utf8.acceptRanges", "internal/bytealg.MaxLen"], apart := false, laid := [("math/bits.deBruijn32tab", laid_math_bits_deBruijn32tab), ("math/bits.deBruijn64tab", laid_math_bits_deBruijn64tab), ("internal/strconv.uint64pow10", laid_internal_strconv_uint64pow10), ("unicode/utf8.acceptRanges", laid_unicode_utf8_acceptRanges), ("ontime/isa.formats", laid_ontime_isa_formats), ("unicode/utf8.first", laid_unicode_utf8_first)], narrowed := true }
def AsmTextUptoSaid : Prop := asmTextUptoRow.holds Tryd.pinned (OpenSpec.upto asmTextSpec)

/-- 'ontimelaw05.AsmComments', WHERE WHAT IT READS IS OF BULK AT MOST 1048576: true; the input reads as it did. -/
def asmCommentsUptoRow : OpenClaim := { program := "ytgeagpplihecmaadoor", sum := "6ae78d112e8327ff692f816d456c8b0041a656398ca8dd1665c007f745b89a5f", func := "ontime/ontimelaw05.AsmComments", spec := "asmComments", inPlace := ["internal/bytealg.IndexByteString", "internal/abi.NoEscape", "internal/bytealg.CountString", "internal/bytealg.IndexString"], unfollowed := true, recurses := true, named := ["ontime/isa.formats", "internal/strconv.uint64pow10", "math/bits.deBruijn32tab", "math/bits.deBruijn64tab", "unicode/utf8.first", "unicode/utf8.acceptRanges", "internal/bytealg.MaxLen"], apart := false, laid := [("math/bits.deBruijn32tab", laid_math_bits_deBruijn32tab), ("math/bits.deBruijn64tab", laid_math_bits_deBruijn64tab), ("internal/strconv.uint64pow10", laid_internal_strconv_uint64pow10), ("unicode/utf8.acceptRanges", laid_unicode_utf8_acceptRanges), ("ontime/isa.formats", laid_ontime_isa_formats), ("unicode/utf8.first", laid_unicode_utf8_first)], narrowed := true }
def AsmCommentsUptoSaid : Prop := asmCommentsUptoRow.holds Tryd.pinned (OpenSpec.upto asmCommentsSpec)

/-- 'ontimelaw05.AsmFixed', WHERE WHAT IT READS IS OF BULK AT MOST 1048576: true; the input reads as it did. -/
def asmFixedUptoRow : OpenClaim := { program := "ytgeagpplihecmaadoor", sum := "6ae78d112e8327ff692f816d456c8b0041a656398ca8dd1665c007f745b89a5f", func := "ontime/ontimelaw05.AsmFixed", spec := "asmFixed", inPlace := ["internal/bytealg.IndexByteString", "internal/abi.NoEscape", "internal/bytealg.CountString", "internal/bytealg.IndexString"], unfollowed := true, recurses := true, named := ["ontime/isa.formats", "internal/strconv.uint64pow10", "math/bits.deBruijn32tab", "math/bits.deBruijn64tab", "unicode/utf8.first", "unicode/utf8.acceptRanges", "internal/bytealg.MaxLen"], apart := false, laid := [("math/bits.deBruijn32tab", laid_math_bits_deBruijn32tab), ("math/bits.deBruijn64tab", laid_math_bits_deBruijn64tab), ("internal/strconv.uint64pow10", laid_internal_strconv_uint64pow10), ("unicode/utf8.acceptRanges", laid_unicode_utf8_acceptRanges), ("ontime/isa.formats", laid_ontime_isa_formats), ("unicode/utf8.first", laid_unicode_utf8_first)], narrowed := true }
def AsmFixedUptoSaid : Prop := asmFixedUptoRow.holds Tryd.pinned (OpenSpec.upto asmFixedSpec)

/-- 'ontimelaw05.AsmJoins', WHERE WHAT IT READS IS OF BULK AT MOST 1048576: true; the input reads as it did. -/
def asmJoinsUptoRow : OpenClaim := { program := "ytgeagpplihecmaadoor", sum := "6ae78d112e8327ff692f816d456c8b0041a656398ca8dd1665c007f745b89a5f", func := "ontime/ontimelaw05.AsmJoins", spec := "asmJoins", inPlace := ["internal/bytealg.IndexByteString", "internal/abi.NoEscape", "internal/bytealg.CountString", "internal/bytealg.IndexString"], unfollowed := true, recurses := true, named := ["ontime/isa.formats", "internal/strconv.uint64pow10", "math/bits.deBruijn32tab", "math/bits.deBruijn64tab", "unicode/utf8.first", "unicode/utf8.acceptRanges", "internal/bytealg.MaxLen"], apart := false, laid := [("math/bits.deBruijn32tab", laid_math_bits_deBruijn32tab), ("math/bits.deBruijn64tab", laid_math_bits_deBruijn64tab), ("internal/strconv.uint64pow10", laid_internal_strconv_uint64pow10), ("unicode/utf8.acceptRanges", laid_unicode_utf8_acceptRanges), ("ontime/isa.formats", laid_ontime_isa_formats), ("unicode/utf8.first", laid_unicode_utf8_first)], narrowed := true }
def AsmJoinsUptoSaid : Prop := asmJoinsUptoRow.holds Tryd.pinned (OpenSpec.upto asmJoinsSpec)

/-- 'ontimelaw05.AsmWords', WHERE WHAT IT READS IS OF BULK AT MOST 1048576: true; the input reads as it did. -/
def asmWordsUptoRow : OpenClaim := { program := "ytgeagpplihecmaadoor", sum := "6ae78d112e8327ff692f816d456c8b0041a656398ca8dd1665c007f745b89a5f", func := "ontime/ontimelaw05.AsmWords", spec := "asmWords", inPlace := ["internal/bytealg.IndexByteString", "internal/abi.NoEscape", "internal/bytealg.CountString", "internal/bytealg.IndexString"], unfollowed := true, recurses := true, named := ["ontime/isa.formats", "internal/strconv.uint64pow10", "math/bits.deBruijn32tab", "math/bits.deBruijn64tab", "unicode/utf8.first", "unicode/utf8.acceptRanges", "internal/bytealg.MaxLen"], apart := false, laid := [("math/bits.deBruijn32tab", laid_math_bits_deBruijn32tab), ("math/bits.deBruijn64tab", laid_math_bits_deBruijn64tab), ("internal/strconv.uint64pow10", laid_internal_strconv_uint64pow10), ("unicode/utf8.acceptRanges", laid_unicode_utf8_acceptRanges), ("ontime/isa.formats", laid_ontime_isa_formats), ("unicode/utf8.first", laid_unicode_utf8_first)], narrowed := true }
def AsmWordsUptoSaid : Prop := asmWordsUptoRow.holds Tryd.pinned (OpenSpec.upto asmWordsSpec)

/-- 'ontimelaw05.AsmDecodes', WHERE WHAT IT READS IS OF BULK AT MOST 1048576: true; the input reads as it did. -/
def asmDecodesUptoRow : OpenClaim := { program := "ytgeagpplihecmaadoor", sum := "6ae78d112e8327ff692f816d456c8b0041a656398ca8dd1665c007f745b89a5f", func := "ontime/ontimelaw05.AsmDecodes", spec := "asmDecodes", inPlace := ["internal/bytealg.IndexByteString", "internal/abi.NoEscape", "internal/bytealg.CountString", "internal/bytealg.IndexString"], unfollowed := true, recurses := true, named := ["ontime/isa.formats", "internal/strconv.uint64pow10", "math/bits.deBruijn32tab", "math/bits.deBruijn64tab", "unicode/utf8.first", "unicode/utf8.acceptRanges", "internal/bytealg.MaxLen"], apart := false, laid := [("math/bits.deBruijn32tab", laid_math_bits_deBruijn32tab), ("math/bits.deBruijn64tab", laid_math_bits_deBruijn64tab), ("internal/strconv.uint64pow10", laid_internal_strconv_uint64pow10), ("unicode/utf8.acceptRanges", laid_unicode_utf8_acceptRanges), ("ontime/isa.formats", laid_ontime_isa_formats), ("unicode/utf8.first", laid_unicode_utf8_first)], narrowed := true }
def AsmDecodesUptoSaid : Prop := asmDecodesUptoRow.holds Tryd.pinned (OpenSpec.upto asmDecodesSpec)

/-- 'ontimelaw05.AsmFull', WHERE WHAT IT READS IS OF BULK AT MOST 1048576: true; the input reads as it did. -/
def asmFullUptoRow : OpenClaim := { program := "ytgeagpplihecmaadoor", sum := "6ae78d112e8327ff692f816d456c8b0041a656398ca8dd1665c007f745b89a5f", func := "ontime/ontimelaw05.AsmFull", spec := "asmFull", inPlace := ["internal/bytealg.IndexByteString", "internal/abi.NoEscape", "internal/bytealg.CountString", "internal/bytealg.IndexString"], unfollowed := true, recurses := true, named := ["ontime/isa.formats", "internal/strconv.uint64pow10", "math/bits.deBruijn32tab", "math/bits.deBruijn64tab", "unicode/utf8.first", "unicode/utf8.acceptRanges", "internal/bytealg.MaxLen"], apart := false, laid := [("math/bits.deBruijn32tab", laid_math_bits_deBruijn32tab), ("math/bits.deBruijn64tab", laid_math_bits_deBruijn64tab), ("internal/strconv.uint64pow10", laid_internal_strconv_uint64pow10), ("unicode/utf8.acceptRanges", laid_unicode_utf8_acceptRanges), ("ontime/isa.formats", laid_ontime_isa_formats), ("unicode/utf8.first", laid_unicode_utf8_first)], narrowed := true }
def AsmFullUptoSaid : Prop := asmFullUptoRow.holds Tryd.pinned (OpenSpec.upto asmFullSpec)

end Rows
end Go.Proofs.YtgeagpplihecmaaDoor
