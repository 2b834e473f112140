/-
  NARROWER THAN 'FOR EVERY INPUT', by the rows' own cells (each row's printed sentence says how): VmRuns: laid · VmFuel: laid · VmSees: laid · VmAlone: laid · VmKeeps: laid · VmReckons: laid · VmTexts: laid · VmLoops: laid · VmDepths: laid · VmSlices: laid.
  DERIVED. THE GIVEN ROWS OF THIS SEAT. 10 by the template 'for every input the law returns true; each argument reads behind the call as it read before'; 0 by the template 'total and deterministic' (their statements: YtbefgplaaghlbaaGreatDoorTotals.lean).
  GIVEN WITH THE SEED: the statements are not yours to turn. If you find one false, say at which input.
  Laid BY PROGRAM, IN A SANDBOX (cutbox-rows.mjs): the forced cells as the released guide's own fill.sh prints them over the translation d84a1de643780e75… (all of the seat's roots in one cut). By AI agents, Wed Nov 11 2026. No macro, syntax, notation, axiom, sorry.
-/
import Derived.Test.YtbefgplaaghlbaaGreatDoorChecked
import GoSem.PinnedTables
import GoSem.Claim
import GoSem.ClaimJoined
import GoSem.ClaimMapViews
import Derived.JoinedTies
import Derived.KernelRfl
namespace Go.Proofs.YtbefgplaaghlbaaGreatDoor
/- THE CELL 'sum', in the pinned program and in every row, IS THE sha256 OF THE DUMP (.gsa) THAT YtbefgplaaghlbaaGreatDoorProg.lean LOADS. Nothing in Lean hashes anything: it is a label: what it is worth is what the hold of that sum in a sandbox is worth. -/
noncomputable def Tryz.pinned : Pinned := { name := "ytbefgplaaghlbaagreatdoor", sum := "d84a1de643780e75dac5f65666948f5dd99b94c4e2dcfc7cdd10311387405a1f", checked := Tryz.checked }
namespace Rows
def none {H : Type} : Left H := { results := [], args := [] }

/- WHAT THE LISTED PACKAGE-LEVEL VARIABLES READ AS WHEN THE CALL BEGINS. Each datum BY PROGRAM (the guide's laid-datum.mjs) off the statement by which the dump's own 'gosem.cut.vars' lays the variable. In a bare row this is a premise. The card (YtbefgplaaghlbaaGreatDoorCards.lean) ties it to the program's text. -/
def laid_math_bits_deBruijn32tab {H : Type} : DataW H := .agg [.lit (.int .u8 0), .lit (.int .u8 1), .lit (.int .u8 28), .lit (.int .u8 2), .lit (.int .u8 29), .lit (.int .u8 14), .lit (.int .u8 24), .lit (.int .u8 3), .lit (.int .u8 30), .lit (.int .u8 22), .lit (.int .u8 20), .lit (.int .u8 15), .lit (.int .u8 25), .lit (.int .u8 17), .lit (.int .u8 4), .lit (.int .u8 8), .lit (.int .u8 31), .lit (.int .u8 27), .lit (.int .u8 13), .lit (.int .u8 23), .lit (.int .u8 21), .lit (.int .u8 19), .lit (.int .u8 16), .lit (.int .u8 7), .lit (.int .u8 26), .lit (.int .u8 12), .lit (.int .u8 18), .lit (.int .u8 6), .lit (.int .u8 11), .lit (.int .u8 5), .lit (.int .u8 10), .lit (.int .u8 9)]
def laid_math_bits_deBruijn64tab {H : Type} : DataW H := .agg [.lit (.int .u8 0), .lit (.int .u8 1), .lit (.int .u8 56), .lit (.int .u8 2), .lit (.int .u8 57), .lit (.int .u8 49), .lit (.int .u8 28), .lit (.int .u8 3), .lit (.int .u8 61), .lit (.int .u8 58), .lit (.int .u8 42), .lit (.int .u8 50), .lit (.int .u8 38), .lit (.int .u8 29), .lit (.int .u8 17), .lit (.int .u8 4), .lit (.int .u8 62), .lit (.int .u8 47), .lit (.int .u8 59), .lit (.int .u8 36), .lit (.int .u8 45), .lit (.int .u8 43), .lit (.int .u8 51), .lit (.int .u8 22), .lit (.int .u8 53), .lit (.int .u8 39), .lit (.int .u8 33), .lit (.int .u8 30), .lit (.int .u8 24), .lit (.int .u8 18), .lit (.int .u8 12), .lit (.int .u8 5), .lit (.int .u8 63), .lit (.int .u8 55), .lit (.int .u8 48), .lit (.int .u8 27), .lit (.int .u8 60), .lit (.int .u8 41), .lit (.int .u8 37), .lit (.int .u8 16), .lit (.int .u8 46), .lit (.int .u8 35), .lit (.int .u8 44), .lit (.int .u8 21), .lit (.int .u8 52), .lit (.int .u8 32), .lit (.int .u8 23), .lit (.int .u8 11), .lit (.int .u8 54), .lit (.int .u8 26), .lit (.int .u8 40), .lit (.int .u8 15), .lit (.int .u8 34), .lit (.int .u8 20), .lit (.int .u8 31), .lit (.int .u8 10), .lit (.int .u8 25), .lit (.int .u8 14), .lit (.int .u8 19), .lit (.int .u8 9), .lit (.int .u8 13), .lit (.int .u8 8), .lit (.int .u8 7), .lit (.int .u8 6)]
def laid_internal_strconv_uint64pow10 {H : Type} : DataW H := .agg [.lit (.int .u64 1), .lit (.int .u64 10), .lit (.int .u64 100), .lit (.int .u64 1000), .lit (.int .u64 10000), .lit (.int .u64 100000), .lit (.int .u64 1000000), .lit (.int .u64 10000000), .lit (.int .u64 100000000), .lit (.int .u64 1000000000), .lit (.int .u64 10000000000), .lit (.int .u64 100000000000), .lit (.int .u64 1000000000000), .lit (.int .u64 10000000000000), .lit (.int .u64 100000000000000), .lit (.int .u64 1000000000000000), .lit (.int .u64 10000000000000000), .lit (.int .u64 100000000000000000), .lit (.int .u64 1000000000000000000), .lit (.int .u64 10000000000000000000)]
def laid_unicode_utf8_acceptRanges {H : Type} : DataW H := .agg [.agg [.lit (.int .u8 128), .lit (.int .u8 191)], .agg [.lit (.int .u8 160), .lit (.int .u8 191)], .agg [.lit (.int .u8 128), .lit (.int .u8 159)], .agg [.lit (.int .u8 144), .lit (.int .u8 191)], .agg [.lit (.int .u8 128), .lit (.int .u8 143)], .agg [.lit (.int .u8 0), .lit (.int .u8 0)], .agg [.lit (.int .u8 0), .lit (.int .u8 0)], .agg [.lit (.int .u8 0), .lit (.int .u8 0)], .agg [.lit (.int .u8 0), .lit (.int .u8 0)], .agg [.lit (.int .u8 0), .lit (.int .u8 0)], .agg [.lit (.int .u8 0), .lit (.int .u8 0)], .agg [.lit (.int .u8 0), .lit (.int .u8 0)], .agg [.lit (.int .u8 0), .lit (.int .u8 0)], .agg [.lit (.int .u8 0), .lit (.int .u8 0)], .agg [.lit (.int .u8 0), .lit (.int .u8 0)], .agg [.lit (.int .u8 0), .lit (.int .u8 0)]]
def laid_strconv_ErrRange {H : Type} : DataW H := .iface "*errors.errorString" (.ptr (.agg [.lit (.string [118, 97, 108, 117, 101, 32, 111, 117, 116, 32, 111, 102, 32, 114, 97, 110, 103, 101])]))
def laid_strconv_ErrSyntax {H : Type} : DataW H := .iface "*errors.errorString" (.ptr (.agg [.lit (.string [105, 110, 118, 97, 108, 105, 100, 32, 115, 121, 110, 116, 97, 120])]))
def laid_sapling_code_words {H : Type} : DataW H := .agg [.lit (.string []), .lit (.string [104, 97, 108, 116]), .lit (.string [112, 117, 115, 104]), .lit (.string [116, 101, 120, 116]), .lit (.string [112, 111, 112]), .lit (.string [100, 117, 112]), .lit (.string [115, 119, 97, 112]), .lit (.string [108, 111, 97, 100]), .lit (.string [115, 116, 111, 114, 101]), .lit (.string [97, 100, 100]), .lit (.string [115, 117, 98]), .lit (.string [109, 117, 108]), .lit (.string [100, 105, 118]), .lit (.string [109, 111, 100]), .lit (.string [108, 101, 115, 115]), .lit (.string [101, 113]), .lit (.string [110, 111, 116]), .lit (.string [106, 117, 109, 112]), .lit (.string [122, 101, 114, 111]), .lit (.string [99, 97, 108, 108]), .lit (.string [114, 101, 116]), .lit (.string [99, 97, 116]), .lit (.string [108, 101, 110]), .lit (.string [99, 117, 116]), .lit (.string [115, 116, 114]), .lit (.string [110, 117, 109]), .lit (.string [114, 101, 97, 100]), .lit (.string [99, 111, 117, 110, 116]), .lit (.string [112, 97, 116, 104]), .lit (.string [119, 114, 105, 116, 101]), .lit (.string [102, 97, 105, 108])]
/-- One of Go's own tables, pinned by name: the form's constant. -/
def laid_unicode_utf8_first : DataW Unit := Go.Pinned.utf8First

/-- 'saplinglaw10.VmRuns': WHATEVER THE INPUT: true; the input reads as it did. -/
def vmRunsSpec : ChangeSpec := { name := "vmRuns", fn := fun _ => fun
  | [d1, d2] => { results := [.lit (.bool true)], args := [d1, d2] }
  | _ => none }
def vmRunsRow : OpenClaim := { program := "ytbefgplaaghlbaagreatdoor", sum := "d84a1de643780e75dac5f65666948f5dd99b94c4e2dcfc7cdd10311387405a1f", func := "sapling/saplinglaw10.VmRuns", spec := "vmRuns", inPlace := ["internal/bytealg.CountString", "internal/bytealg.IndexByteString", "internal/bytealg.IndexString", "internal/bytealg.abigen_runtime_cmpstring"], unfollowed := true, recurses := true, named := ["sapling/code.words", "unicode/utf8.first", "unicode/utf8.acceptRanges", "internal/bytealg.MaxLen", "internal/strconv.uint64pow10", "math/bits.deBruijn32tab", "math/bits.deBruijn64tab", "strconv.ErrSyntax", "strconv.ErrRange"], apart := false, laid := [("math/bits.deBruijn32tab", laid_math_bits_deBruijn32tab), ("math/bits.deBruijn64tab", laid_math_bits_deBruijn64tab), ("internal/strconv.uint64pow10", laid_internal_strconv_uint64pow10), ("unicode/utf8.acceptRanges", laid_unicode_utf8_acceptRanges), ("strconv.ErrRange", laid_strconv_ErrRange), ("strconv.ErrSyntax", laid_strconv_ErrSyntax), ("sapling/code.words", laid_sapling_code_words), ("unicode/utf8.first", laid_unicode_utf8_first)] }
def VmRunsSaid : Prop := vmRunsRow.holds Tryz.pinned (OpenSpec.ofChange vmRunsSpec)

/-- ITS FALSE NEIGHBOUR: 'it returns false'. Refute it at one input. -/
def vmRunsWrong : ChangeSpec := { name := "vmRuns", fn := fun _ => fun
  | [d1, d2] => { results := [.lit (.bool false)], args := [d1, d2] }
  | _ => none }
def VmRunsWrongFalsely : Prop := vmRunsRow.holds Tryz.pinned (OpenSpec.ofChange vmRunsWrong)

/-- 'saplinglaw10.VmFuel': WHATEVER THE INPUT: true; the input reads as it did. -/
def vmFuelSpec : ChangeSpec := { name := "vmFuel", fn := fun _ => fun
  | [d1, d2] => { results := [.lit (.bool true)], args := [d1, d2] }
  | _ => none }
def vmFuelRow : OpenClaim := { program := "ytbefgplaaghlbaagreatdoor", sum := "d84a1de643780e75dac5f65666948f5dd99b94c4e2dcfc7cdd10311387405a1f", func := "sapling/saplinglaw10.VmFuel", spec := "vmFuel", inPlace := ["internal/bytealg.CountString", "internal/bytealg.IndexByteString", "internal/bytealg.IndexString", "internal/bytealg.abigen_runtime_cmpstring"], unfollowed := true, recurses := true, named := ["sapling/code.words", "unicode/utf8.first", "unicode/utf8.acceptRanges", "internal/bytealg.MaxLen", "internal/strconv.uint64pow10", "math/bits.deBruijn32tab", "math/bits.deBruijn64tab", "strconv.ErrSyntax", "strconv.ErrRange"], apart := false, laid := [("math/bits.deBruijn32tab", laid_math_bits_deBruijn32tab), ("math/bits.deBruijn64tab", laid_math_bits_deBruijn64tab), ("internal/strconv.uint64pow10", laid_internal_strconv_uint64pow10), ("unicode/utf8.acceptRanges", laid_unicode_utf8_acceptRanges), ("strconv.ErrRange", laid_strconv_ErrRange), ("strconv.ErrSyntax", laid_strconv_ErrSyntax), ("sapling/code.words", laid_sapling_code_words), ("unicode/utf8.first", laid_unicode_utf8_first)] }
def VmFuelSaid : Prop := vmFuelRow.holds Tryz.pinned (OpenSpec.ofChange vmFuelSpec)

/-- ITS FALSE NEIGHBOUR: 'it returns false'. Refute it at one input. -/
def vmFuelWrong : ChangeSpec := { name := "vmFuel", fn := fun _ => fun
  | [d1, d2] => { results := [.lit (.bool false)], args := [d1, d2] }
  | _ => none }
def VmFuelWrongFalsely : Prop := vmFuelRow.holds Tryz.pinned (OpenSpec.ofChange vmFuelWrong)

/-- 'saplinglaw10.VmSees': WHATEVER THE INPUT: true; the input reads as it did. -/
def vmSeesSpec : ChangeSpec := { name := "vmSees", fn := fun _ => fun
  | [d1, d2, d3] => { results := [.lit (.bool true)], args := [d1, d2, d3] }
  | _ => none }
def vmSeesRow : OpenClaim := { program := "ytbefgplaaghlbaagreatdoor", sum := "d84a1de643780e75dac5f65666948f5dd99b94c4e2dcfc7cdd10311387405a1f", func := "sapling/saplinglaw10.VmSees", spec := "vmSees", inPlace := ["internal/bytealg.CountString", "internal/bytealg.IndexByteString", "internal/bytealg.IndexString", "internal/bytealg.abigen_runtime_cmpstring"], unfollowed := true, recurses := true, named := ["sapling/code.words", "unicode/utf8.first", "unicode/utf8.acceptRanges", "internal/bytealg.MaxLen", "internal/strconv.uint64pow10", "math/bits.deBruijn32tab", "math/bits.deBruijn64tab", "strconv.ErrSyntax", "strconv.ErrRange"], apart := false, laid := [("math/bits.deBruijn32tab", laid_math_bits_deBruijn32tab), ("math/bits.deBruijn64tab", laid_math_bits_deBruijn64tab), ("internal/strconv.uint64pow10", laid_internal_strconv_uint64pow10), ("unicode/utf8.acceptRanges", laid_unicode_utf8_acceptRanges), ("strconv.ErrRange", laid_strconv_ErrRange), ("strconv.ErrSyntax", laid_strconv_ErrSyntax), ("sapling/code.words", laid_sapling_code_words), ("unicode/utf8.first", laid_unicode_utf8_first)] }
def VmSeesSaid : Prop := vmSeesRow.holds Tryz.pinned (OpenSpec.ofChange vmSeesSpec)

/-- ITS FALSE NEIGHBOUR: 'it returns false'. Refute it at one input. -/
def vmSeesWrong : ChangeSpec := { name := "vmSees", fn := fun _ => fun
  | [d1, d2, d3] => { results := [.lit (.bool false)], args := [d1, d2, d3] }
  | _ => none }
def VmSeesWrongFalsely : Prop := vmSeesRow.holds Tryz.pinned (OpenSpec.ofChange vmSeesWrong)

/-- 'saplinglaw10.VmAlone': WHATEVER THE INPUT: true; the input reads as it did. -/
def vmAloneSpec : ChangeSpec := { name := "vmAlone", fn := fun _ => fun
  | [d1, d2] => { results := [.lit (.bool true)], args := [d1, d2] }
  | _ => none }
def vmAloneRow : OpenClaim := { program := "ytbefgplaaghlbaagreatdoor", sum := "d84a1de643780e75dac5f65666948f5dd99b94c4e2dcfc7cdd10311387405a1f", func := "sapling/saplinglaw10.VmAlone", spec := "vmAlone", inPlace := ["internal/bytealg.CountString", "internal/bytealg.IndexByteString", "internal/bytealg.IndexString", "internal/bytealg.abigen_runtime_cmpstring"], unfollowed := true, recurses := true, named := ["sapling/code.words", "unicode/utf8.first", "unicode/utf8.acceptRanges", "internal/bytealg.MaxLen", "internal/strconv.uint64pow10", "math/bits.deBruijn32tab", "math/bits.deBruijn64tab", "strconv.ErrSyntax", "strconv.ErrRange"], apart := false, laid := [("math/bits.deBruijn32tab", laid_math_bits_deBruijn32tab), ("math/bits.deBruijn64tab", laid_math_bits_deBruijn64tab), ("internal/strconv.uint64pow10", laid_internal_strconv_uint64pow10), ("unicode/utf8.acceptRanges", laid_unicode_utf8_acceptRanges), ("strconv.ErrRange", laid_strconv_ErrRange), ("strconv.ErrSyntax", laid_strconv_ErrSyntax), ("sapling/code.words", laid_sapling_code_words), ("unicode/utf8.first", laid_unicode_utf8_first)] }
def VmAloneSaid : Prop := vmAloneRow.holds Tryz.pinned (OpenSpec.ofChange vmAloneSpec)

/-- ITS FALSE NEIGHBOUR: 'it returns false'. Refute it at one input. -/
def vmAloneWrong : ChangeSpec := { name := "vmAlone", fn := fun _ => fun
  | [d1, d2] => { results := [.lit (.bool false)], args := [d1, d2] }
  | _ => none }
def VmAloneWrongFalsely : Prop := vmAloneRow.holds Tryz.pinned (OpenSpec.ofChange vmAloneWrong)

/-- 'saplinglaw10.VmKeeps': WHATEVER THE INPUT: true; the input reads as it did. -/
def vmKeepsSpec : ChangeSpec := { name := "vmKeeps", fn := fun _ => fun
  | [d1, d2] => { results := [.lit (.bool true)], args := [d1, d2] }
  | _ => none }
def vmKeepsRow : OpenClaim := { program := "ytbefgplaaghlbaagreatdoor", sum := "d84a1de643780e75dac5f65666948f5dd99b94c4e2dcfc7cdd10311387405a1f", func := "sapling/saplinglaw10.VmKeeps", spec := "vmKeeps", inPlace := ["internal/bytealg.CountString", "internal/bytealg.IndexByteString", "internal/bytealg.IndexString", "internal/bytealg.abigen_runtime_cmpstring"], unfollowed := true, recurses := true, named := ["sapling/code.words", "unicode/utf8.first", "unicode/utf8.acceptRanges", "internal/bytealg.MaxLen", "internal/strconv.uint64pow10", "math/bits.deBruijn32tab", "math/bits.deBruijn64tab", "strconv.ErrSyntax", "strconv.ErrRange"], apart := false, laid := [("math/bits.deBruijn32tab", laid_math_bits_deBruijn32tab), ("math/bits.deBruijn64tab", laid_math_bits_deBruijn64tab), ("internal/strconv.uint64pow10", laid_internal_strconv_uint64pow10), ("unicode/utf8.acceptRanges", laid_unicode_utf8_acceptRanges), ("strconv.ErrRange", laid_strconv_ErrRange), ("strconv.ErrSyntax", laid_strconv_ErrSyntax), ("sapling/code.words", laid_sapling_code_words), ("unicode/utf8.first", laid_unicode_utf8_first)] }
def VmKeepsSaid : Prop := vmKeepsRow.holds Tryz.pinned (OpenSpec.ofChange vmKeepsSpec)

/-- ITS FALSE NEIGHBOUR: 'it returns false'. Refute it at one input. -/
def vmKeepsWrong : ChangeSpec := { name := "vmKeeps", fn := fun _ => fun
  | [d1, d2] => { results := [.lit (.bool false)], args := [d1, d2] }
  | _ => none }
def VmKeepsWrongFalsely : Prop := vmKeepsRow.holds Tryz.pinned (OpenSpec.ofChange vmKeepsWrong)

/-- 'saplinglaw10.VmReckons': WHATEVER THE INPUT: true; the input reads as it did. -/
def vmReckonsSpec : ChangeSpec := { name := "vmReckons", fn := fun _ => fun
  | [d1, d2, d3] => { results := [.lit (.bool true)], args := [d1, d2, d3] }
  | _ => none }
def vmReckonsRow : OpenClaim := { program := "ytbefgplaaghlbaagreatdoor", sum := "d84a1de643780e75dac5f65666948f5dd99b94c4e2dcfc7cdd10311387405a1f", func := "sapling/saplinglaw10.VmReckons", spec := "vmReckons", inPlace := ["internal/bytealg.CountString", "internal/bytealg.IndexByteString", "internal/bytealg.IndexString", "internal/bytealg.abigen_runtime_cmpstring"], unfollowed := true, recurses := true, named := ["sapling/code.words", "unicode/utf8.first", "unicode/utf8.acceptRanges", "internal/bytealg.MaxLen", "internal/strconv.uint64pow10", "math/bits.deBruijn32tab", "math/bits.deBruijn64tab", "strconv.ErrSyntax", "strconv.ErrRange"], apart := false, laid := [("math/bits.deBruijn32tab", laid_math_bits_deBruijn32tab), ("math/bits.deBruijn64tab", laid_math_bits_deBruijn64tab), ("internal/strconv.uint64pow10", laid_internal_strconv_uint64pow10), ("unicode/utf8.acceptRanges", laid_unicode_utf8_acceptRanges), ("strconv.ErrRange", laid_strconv_ErrRange), ("strconv.ErrSyntax", laid_strconv_ErrSyntax), ("sapling/code.words", laid_sapling_code_words), ("unicode/utf8.first", laid_unicode_utf8_first)] }
def VmReckonsSaid : Prop := vmReckonsRow.holds Tryz.pinned (OpenSpec.ofChange vmReckonsSpec)

/-- ITS FALSE NEIGHBOUR: 'it returns false'. Refute it at one input. -/
def vmReckonsWrong : ChangeSpec := { name := "vmReckons", fn := fun _ => fun
  | [d1, d2, d3] => { results := [.lit (.bool false)], args := [d1, d2, d3] }
  | _ => none }
def VmReckonsWrongFalsely : Prop := vmReckonsRow.holds Tryz.pinned (OpenSpec.ofChange vmReckonsWrong)

/-- 'saplinglaw10.VmTexts': WHATEVER THE INPUT: true; the input reads as it did. -/
def vmTextsSpec : ChangeSpec := { name := "vmTexts", fn := fun _ => fun
  | [d1, d2, d3] => { results := [.lit (.bool true)], args := [d1, d2, d3] }
  | _ => none }
def vmTextsRow : OpenClaim := { program := "ytbefgplaaghlbaagreatdoor", sum := "d84a1de643780e75dac5f65666948f5dd99b94c4e2dcfc7cdd10311387405a1f", func := "sapling/saplinglaw10.VmTexts", spec := "vmTexts", inPlace := ["internal/bytealg.CountString", "internal/bytealg.IndexByteString", "internal/bytealg.IndexString", "internal/bytealg.abigen_runtime_cmpstring"], unfollowed := true, recurses := true, named := ["sapling/code.words", "unicode/utf8.first", "unicode/utf8.acceptRanges", "internal/bytealg.MaxLen", "internal/strconv.uint64pow10", "math/bits.deBruijn32tab", "math/bits.deBruijn64tab", "strconv.ErrSyntax", "strconv.ErrRange"], apart := false, laid := [("math/bits.deBruijn32tab", laid_math_bits_deBruijn32tab), ("math/bits.deBruijn64tab", laid_math_bits_deBruijn64tab), ("internal/strconv.uint64pow10", laid_internal_strconv_uint64pow10), ("unicode/utf8.acceptRanges", laid_unicode_utf8_acceptRanges), ("strconv.ErrRange", laid_strconv_ErrRange), ("strconv.ErrSyntax", laid_strconv_ErrSyntax), ("sapling/code.words", laid_sapling_code_words), ("unicode/utf8.first", laid_unicode_utf8_first)] }
def VmTextsSaid : Prop := vmTextsRow.holds Tryz.pinned (OpenSpec.ofChange vmTextsSpec)

/-- ITS FALSE NEIGHBOUR: 'it returns false'. Refute it at one input. -/
def vmTextsWrong : ChangeSpec := { name := "vmTexts", fn := fun _ => fun
  | [d1, d2, d3] => { results := [.lit (.bool false)], args := [d1, d2, d3] }
  | _ => none }
def VmTextsWrongFalsely : Prop := vmTextsRow.holds Tryz.pinned (OpenSpec.ofChange vmTextsWrong)

/-- 'saplinglaw10.VmLoops': WHATEVER THE INPUT: true; the input reads as it did. -/
def vmLoopsSpec : ChangeSpec := { name := "vmLoops", fn := fun _ => fun
  | [d] => { results := [.lit (.bool true)], args := [d] }
  | _ => none }
def vmLoopsRow : OpenClaim := { program := "ytbefgplaaghlbaagreatdoor", sum := "d84a1de643780e75dac5f65666948f5dd99b94c4e2dcfc7cdd10311387405a1f", func := "sapling/saplinglaw10.VmLoops", spec := "vmLoops", inPlace := ["internal/bytealg.CountString", "internal/bytealg.IndexByteString", "internal/bytealg.IndexString", "internal/bytealg.abigen_runtime_cmpstring"], unfollowed := true, recurses := true, named := ["sapling/code.words", "unicode/utf8.first", "unicode/utf8.acceptRanges", "internal/bytealg.MaxLen", "internal/strconv.uint64pow10", "math/bits.deBruijn32tab", "math/bits.deBruijn64tab", "strconv.ErrSyntax", "strconv.ErrRange"], apart := false, laid := [("math/bits.deBruijn32tab", laid_math_bits_deBruijn32tab), ("math/bits.deBruijn64tab", laid_math_bits_deBruijn64tab), ("internal/strconv.uint64pow10", laid_internal_strconv_uint64pow10), ("unicode/utf8.acceptRanges", laid_unicode_utf8_acceptRanges), ("strconv.ErrRange", laid_strconv_ErrRange), ("strconv.ErrSyntax", laid_strconv_ErrSyntax), ("sapling/code.words", laid_sapling_code_words), ("unicode/utf8.first", laid_unicode_utf8_first)] }
def VmLoopsSaid : Prop := vmLoopsRow.holds Tryz.pinned (OpenSpec.ofChange vmLoopsSpec)

/-- ITS FALSE NEIGHBOUR: 'it returns false'. Refute it at one input. -/
def vmLoopsWrong : ChangeSpec := { name := "vmLoops", fn := fun _ => fun
  | [d] => { results := [.lit (.bool false)], args := [d] }
  | _ => none }
def VmLoopsWrongFalsely : Prop := vmLoopsRow.holds Tryz.pinned (OpenSpec.ofChange vmLoopsWrong)

/-- 'saplinglaw10.VmDepths': WHATEVER THE INPUT: true; the input reads as it did. -/
def vmDepthsSpec : ChangeSpec := { name := "vmDepths", fn := fun _ => fun
  | [d] => { results := [.lit (.bool true)], args := [d] }
  | _ => none }
def vmDepthsRow : OpenClaim := { program := "ytbefgplaaghlbaagreatdoor", sum := "d84a1de643780e75dac5f65666948f5dd99b94c4e2dcfc7cdd10311387405a1f", func := "sapling/saplinglaw10.VmDepths", spec := "vmDepths", inPlace := ["internal/bytealg.CountString", "internal/bytealg.IndexByteString", "internal/bytealg.IndexString", "internal/bytealg.abigen_runtime_cmpstring"], unfollowed := true, recurses := true, named := ["sapling/code.words", "unicode/utf8.first", "unicode/utf8.acceptRanges", "internal/bytealg.MaxLen", "internal/strconv.uint64pow10", "math/bits.deBruijn32tab", "math/bits.deBruijn64tab", "strconv.ErrSyntax", "strconv.ErrRange"], apart := false, laid := [("math/bits.deBruijn32tab", laid_math_bits_deBruijn32tab), ("math/bits.deBruijn64tab", laid_math_bits_deBruijn64tab), ("internal/strconv.uint64pow10", laid_internal_strconv_uint64pow10), ("unicode/utf8.acceptRanges", laid_unicode_utf8_acceptRanges), ("strconv.ErrRange", laid_strconv_ErrRange), ("strconv.ErrSyntax", laid_strconv_ErrSyntax), ("sapling/code.words", laid_sapling_code_words), ("unicode/utf8.first", laid_unicode_utf8_first)] }
def VmDepthsSaid : Prop := vmDepthsRow.holds Tryz.pinned (OpenSpec.ofChange vmDepthsSpec)

/-- ITS FALSE NEIGHBOUR: 'it returns false'. Refute it at one input. -/
def vmDepthsWrong : ChangeSpec := { name := "vmDepths", fn := fun _ => fun
  | [d] => { results := [.lit (.bool false)], args := [d] }
  | _ => none }
def VmDepthsWrongFalsely : Prop := vmDepthsRow.holds Tryz.pinned (OpenSpec.ofChange vmDepthsWrong)

/-- 'saplinglaw10.VmSlices': WHATEVER THE INPUT: true; the input reads as it did. -/
def vmSlicesSpec : ChangeSpec := { name := "vmSlices", fn := fun _ => fun
  | [d1, d2, d3] => { results := [.lit (.bool true)], args := [d1, d2, d3] }
  | _ => none }
def vmSlicesRow : OpenClaim := { program := "ytbefgplaaghlbaagreatdoor", sum := "d84a1de643780e75dac5f65666948f5dd99b94c4e2dcfc7cdd10311387405a1f", func := "sapling/saplinglaw10.VmSlices", spec := "vmSlices", inPlace := ["internal/bytealg.CountString", "internal/bytealg.IndexByteString", "internal/bytealg.IndexString", "internal/bytealg.abigen_runtime_cmpstring"], unfollowed := true, recurses := true, named := ["sapling/code.words", "unicode/utf8.first", "unicode/utf8.acceptRanges", "internal/bytealg.MaxLen", "internal/strconv.uint64pow10", "math/bits.deBruijn32tab", "math/bits.deBruijn64tab", "strconv.ErrSyntax", "strconv.ErrRange"], apart := false, laid := [("math/bits.deBruijn32tab", laid_math_bits_deBruijn32tab), ("math/bits.deBruijn64tab", laid_math_bits_deBruijn64tab), ("internal/strconv.uint64pow10", laid_internal_strconv_uint64pow10), ("unicode/utf8.acceptRanges", laid_unicode_utf8_acceptRanges), ("strconv.ErrRange", laid_strconv_ErrRange), ("strconv.ErrSyntax", laid_strconv_ErrSyntax), ("sapling/code.words", laid_sapling_code_words), ("unicode/utf8.first", laid_unicode_utf8_first)] }
def VmSlicesSaid : Prop := vmSlicesRow.holds Tryz.pinned (OpenSpec.ofChange vmSlicesSpec)

/-- ITS FALSE NEIGHBOUR: 'it returns false'. Refute it at one input. -/
def vmSlicesWrong : ChangeSpec := { name := "vmSlices", fn := fun _ => fun
  | [d1, d2, d3] => { results := [.lit (.bool false)], args := [d1, d2, d3] }
  | _ => none }
def VmSlicesWrongFalsely : Prop := vmSlicesRow.holds Tryz.pinned (OpenSpec.ofChange vmSlicesWrong)

/- THE SECOND FORM. 'bulk': how many values and letters a reading holds, each counted each time it is reached (what is shared counts as often as it is met; a slice's spare places count too). A statement '..UptoSaid' is the law's where the arguments, and the package variables that the reading takes, are together of bulk at most 1048576: NARROWER than '..Said'. Prove '..Said' where nothing that the law and all that it calls make is longer than what came in: it says more and counts as full. Else prove '..UptoSaid'. A law counts once. -/
mutual
def uptoBulk {H : Type} : DataW H → Nat
  | .lit (.string bytes) => bytes.length + 1
  | .lit _ => 1
  | .nil => 1
  | .ptr d => uptoBulk d + 1
  | .slice elems spare => uptoBulkAll elems + uptoBulkAll spare + 1
  | .agg parts => uptoBulkAll parts + 1
  | .iface _ d => uptoBulk d + 1
  | .map entries => uptoBulkEntries entries + 1
  | .held _ => 1
def uptoBulkAll {H : Type} : List (DataW H) → Nat
  | [] => 0
  | d :: r => uptoBulk d + uptoBulkAll r
def uptoBulkEntries {H : Type} : List (Lit × DataW H) → Nat
  | [] => 0
  | x :: r => uptoBulkEntry x + uptoBulkEntries r
def uptoBulkEntry {H : Type} : Lit × DataW H → Nat
  | (.string bytes, d) => bytes.length + uptoBulk d + 1
  | (_, d) => uptoBulk d + 1
 end
def uptoSmall : (H : Type) → List (DataW H) → Bool := fun _ ds => decide (uptoBulkAll ds ≤ 1048576)
def OpenSpec.upto (s : _root_.Go.ChangeSpec) : _root_.Go.OpenSpec := { _root_.Go.OpenSpec.ofChange s with cond := some uptoSmall }

/-- 'saplinglaw10.VmRuns', WHERE WHAT IT READS IS OF BULK AT MOST 1048576: true; the input reads as it did. -/
def vmRunsUptoRow : OpenClaim := { program := "ytbefgplaaghlbaagreatdoor", sum := "d84a1de643780e75dac5f65666948f5dd99b94c4e2dcfc7cdd10311387405a1f", func := "sapling/saplinglaw10.VmRuns", spec := "vmRuns", inPlace := ["internal/bytealg.CountString", "internal/bytealg.IndexByteString", "internal/bytealg.IndexString", "internal/bytealg.abigen_runtime_cmpstring"], unfollowed := true, recurses := true, named := ["sapling/code.words", "unicode/utf8.first", "unicode/utf8.acceptRanges", "internal/bytealg.MaxLen", "internal/strconv.uint64pow10", "math/bits.deBruijn32tab", "math/bits.deBruijn64tab", "strconv.ErrSyntax", "strconv.ErrRange"], apart := false, laid := [("math/bits.deBruijn32tab", laid_math_bits_deBruijn32tab), ("math/bits.deBruijn64tab", laid_math_bits_deBruijn64tab), ("internal/strconv.uint64pow10", laid_internal_strconv_uint64pow10), ("unicode/utf8.acceptRanges", laid_unicode_utf8_acceptRanges), ("strconv.ErrRange", laid_strconv_ErrRange), ("strconv.ErrSyntax", laid_strconv_ErrSyntax), ("sapling/code.words", laid_sapling_code_words), ("unicode/utf8.first", laid_unicode_utf8_first)], narrowed := true }
def VmRunsUptoSaid : Prop := vmRunsUptoRow.holds Tryz.pinned (OpenSpec.upto vmRunsSpec)

/-- 'saplinglaw10.VmFuel', WHERE WHAT IT READS IS OF BULK AT MOST 1048576: true; the input reads as it did. -/
def vmFuelUptoRow : OpenClaim := { program := "ytbefgplaaghlbaagreatdoor", sum := "d84a1de643780e75dac5f65666948f5dd99b94c4e2dcfc7cdd10311387405a1f", func := "sapling/saplinglaw10.VmFuel", spec := "vmFuel", inPlace := ["internal/bytealg.CountString", "internal/bytealg.IndexByteString", "internal/bytealg.IndexString", "internal/bytealg.abigen_runtime_cmpstring"], unfollowed := true, recurses := true, named := ["sapling/code.words", "unicode/utf8.first", "unicode/utf8.acceptRanges", "internal/bytealg.MaxLen", "internal/strconv.uint64pow10", "math/bits.deBruijn32tab", "math/bits.deBruijn64tab", "strconv.ErrSyntax", "strconv.ErrRange"], apart := false, laid := [("math/bits.deBruijn32tab", laid_math_bits_deBruijn32tab), ("math/bits.deBruijn64tab", laid_math_bits_deBruijn64tab), ("internal/strconv.uint64pow10", laid_internal_strconv_uint64pow10), ("unicode/utf8.acceptRanges", laid_unicode_utf8_acceptRanges), ("strconv.ErrRange", laid_strconv_ErrRange), ("strconv.ErrSyntax", laid_strconv_ErrSyntax), ("sapling/code.words", laid_sapling_code_words), ("unicode/utf8.first", laid_unicode_utf8_first)], narrowed := true }
def VmFuelUptoSaid : Prop := vmFuelUptoRow.holds Tryz.pinned (OpenSpec.upto vmFuelSpec)

/-- 'saplinglaw10.VmSees', WHERE WHAT IT READS IS OF BULK AT MOST 1048576: true; the input reads as it did. -/
def vmSeesUptoRow : OpenClaim := { program := "ytbefgplaaghlbaagreatdoor", sum := "d84a1de643780e75dac5f65666948f5dd99b94c4e2dcfc7cdd10311387405a1f", func := "sapling/saplinglaw10.VmSees", spec := "vmSees", inPlace := ["internal/bytealg.CountString", "internal/bytealg.IndexByteString", "internal/bytealg.IndexString", "internal/bytealg.abigen_runtime_cmpstring"], unfollowed := true, recurses := true, named := ["sapling/code.words", "unicode/utf8.first", "unicode/utf8.acceptRanges", "internal/bytealg.MaxLen", "internal/strconv.uint64pow10", "math/bits.deBruijn32tab", "math/bits.deBruijn64tab", "strconv.ErrSyntax", "strconv.ErrRange"], apart := false, laid := [("math/bits.deBruijn32tab", laid_math_bits_deBruijn32tab), ("math/bits.deBruijn64tab", laid_math_bits_deBruijn64tab), ("internal/strconv.uint64pow10", laid_internal_strconv_uint64pow10), ("unicode/utf8.acceptRanges", laid_unicode_utf8_acceptRanges), ("strconv.ErrRange", laid_strconv_ErrRange), ("strconv.ErrSyntax", laid_strconv_ErrSyntax), ("sapling/code.words", laid_sapling_code_words), ("unicode/utf8.first", laid_unicode_utf8_first)], narrowed := true }
def VmSeesUptoSaid : Prop := vmSeesUptoRow.holds Tryz.pinned (OpenSpec.upto vmSeesSpec)

/-- 'saplinglaw10.VmAlone', WHERE WHAT IT READS IS OF BULK AT MOST 1048576: true; the input reads as it did. -/
def vmAloneUptoRow : OpenClaim := { program := "ytbefgplaaghlbaagreatdoor", sum := "d84a1de643780e75dac5f65666948f5dd99b94c4e2dcfc7cdd10311387405a1f", func := "sapling/saplinglaw10.VmAlone", spec := "vmAlone", inPlace := ["internal/bytealg.CountString", "internal/bytealg.IndexByteString", "internal/bytealg.IndexString", "internal/bytealg.abigen_runtime_cmpstring"], unfollowed := true, recurses := true, named := ["sapling/code.words", "unicode/utf8.first", "unicode/utf8.acceptRanges", "internal/bytealg.MaxLen", "internal/strconv.uint64pow10", "math/bits.deBruijn32tab", "math/bits.deBruijn64tab", "strconv.ErrSyntax", "strconv.ErrRange"], apart := false, laid := [("math/bits.deBruijn32tab", laid_math_bits_deBruijn32tab), ("math/bits.deBruijn64tab", laid_math_bits_deBruijn64tab), ("internal/strconv.uint64pow10", laid_internal_strconv_uint64pow10), ("unicode/utf8.acceptRanges", laid_unicode_utf8_acceptRanges), ("strconv.ErrRange", laid_strconv_ErrRange), ("strconv.ErrSyntax", laid_strconv_ErrSyntax), ("sapling/code.words", laid_sapling_code_words), ("unicode/utf8.first", laid_unicode_utf8_first)], narrowed := true }
def VmAloneUptoSaid : Prop := vmAloneUptoRow.holds Tryz.pinned (OpenSpec.upto vmAloneSpec)

/-- 'saplinglaw10.VmKeeps', WHERE WHAT IT READS IS OF BULK AT MOST 1048576: true; the input reads as it did. -/
def vmKeepsUptoRow : OpenClaim := { program := "ytbefgplaaghlbaagreatdoor", sum := "d84a1de643780e75dac5f65666948f5dd99b94c4e2dcfc7cdd10311387405a1f", func := "sapling/saplinglaw10.VmKeeps", spec := "vmKeeps", inPlace := ["internal/bytealg.CountString", "internal/bytealg.IndexByteString", "internal/bytealg.IndexString", "internal/bytealg.abigen_runtime_cmpstring"], unfollowed := true, recurses := true, named := ["sapling/code.words", "unicode/utf8.first", "unicode/utf8.acceptRanges", "internal/bytealg.MaxLen", "internal/strconv.uint64pow10", "math/bits.deBruijn32tab", "math/bits.deBruijn64tab", "strconv.ErrSyntax", "strconv.ErrRange"], apart := false, laid := [("math/bits.deBruijn32tab", laid_math_bits_deBruijn32tab), ("math/bits.deBruijn64tab", laid_math_bits_deBruijn64tab), ("internal/strconv.uint64pow10", laid_internal_strconv_uint64pow10), ("unicode/utf8.acceptRanges", laid_unicode_utf8_acceptRanges), ("strconv.ErrRange", laid_strconv_ErrRange), ("strconv.ErrSyntax", laid_strconv_ErrSyntax), ("sapling/code.words", laid_sapling_code_words), ("unicode/utf8.first", laid_unicode_utf8_first)], narrowed := true }
def VmKeepsUptoSaid : Prop := vmKeepsUptoRow.holds Tryz.pinned (OpenSpec.upto vmKeepsSpec)

/-- 'saplinglaw10.VmReckons', WHERE WHAT IT READS IS OF BULK AT MOST 1048576: true; the input reads as it did. -/
def vmReckonsUptoRow : OpenClaim := { program := "ytbefgplaaghlbaagreatdoor", sum := "d84a1de643780e75dac5f65666948f5dd99b94c4e2dcfc7cdd10311387405a1f", func := "sapling/saplinglaw10.VmReckons", spec := "vmReckons", inPlace := ["internal/bytealg.CountString", "internal/bytealg.IndexByteString", "internal/bytealg.IndexString", "internal/bytealg.abigen_runtime_cmpstring"], unfollowed := true, recurses := true, named := ["sapling/code.words", "unicode/utf8.first", "unicode/utf8.acceptRanges", "internal/bytealg.MaxLen", "internal/strconv.uint64pow10", "math/bits.deBruijn32tab", "math/bits.deBruijn64tab", "strconv.ErrSyntax", "strconv.ErrRange"], apart := false, laid := [("math/bits.deBruijn32tab", laid_math_bits_deBruijn32tab), ("math/bits.deBruijn64tab", laid_math_bits_deBruijn64tab), ("internal/strconv.uint64pow10", laid_internal_strconv_uint64pow10), ("unicode/utf8.acceptRanges", laid_unicode_utf8_acceptRanges), ("strconv.ErrRange", laid_strconv_ErrRange), ("strconv.ErrSyntax", laid_strconv_ErrSyntax), ("sapling/code.words", laid_sapling_code_words), ("unicode/utf8.first", laid_unicode_utf8_first)], narrowed := true }
def VmReckonsUptoSaid : Prop := vmReckonsUptoRow.holds Tryz.pinned (OpenSpec.upto vmReckonsSpec)

/-- 'saplinglaw10.VmTexts', WHERE WHAT IT READS IS OF BULK AT MOST 1048576: true; the input reads as it did. -/
def vmTextsUptoRow : OpenClaim := { program := "ytbefgplaaghlbaagreatdoor", sum := "d84a1de643780e75dac5f65666948f5dd99b94c4e2dcfc7cdd10311387405a1f", func := "sapling/saplinglaw10.VmTexts", spec := "vmTexts", inPlace := ["internal/bytealg.CountString", "internal/bytealg.IndexByteString", "internal/bytealg.IndexString", "internal/bytealg.abigen_runtime_cmpstring"], unfollowed := true, recurses := true, named := ["sapling/code.words", "unicode/utf8.first", "unicode/utf8.acceptRanges", "internal/bytealg.MaxLen", "internal/strconv.uint64pow10", "math/bits.deBruijn32tab", "math/bits.deBruijn64tab", "strconv.ErrSyntax", "strconv.ErrRange"], apart := false, laid := [("math/bits.deBruijn32tab", laid_math_bits_deBruijn32tab), ("math/bits.deBruijn64tab", laid_math_bits_deBruijn64tab), ("internal/strconv.uint64pow10", laid_internal_strconv_uint64pow10), ("unicode/utf8.acceptRanges", laid_unicode_utf8_acceptRanges), ("strconv.ErrRange", laid_strconv_ErrRange), ("strconv.ErrSyntax", laid_strconv_ErrSyntax), ("sapling/code.words", laid_sapling_code_words), ("unicode/utf8.first", laid_unicode_utf8_first)], narrowed := true }
def VmTextsUptoSaid : Prop := vmTextsUptoRow.holds Tryz.pinned (OpenSpec.upto vmTextsSpec)

/-- 'saplinglaw10.VmLoops', WHERE WHAT IT READS IS OF BULK AT MOST 1048576: true; the input reads as it did. -/
def vmLoopsUptoRow : OpenClaim := { program := "ytbefgplaaghlbaagreatdoor", sum := "d84a1de643780e75dac5f65666948f5dd99b94c4e2dcfc7cdd10311387405a1f", func := "sapling/saplinglaw10.VmLoops", spec := "vmLoops", inPlace := ["internal/bytealg.CountString", "internal/bytealg.IndexByteString", "internal/bytealg.IndexString", "internal/bytealg.abigen_runtime_cmpstring"], unfollowed := true, recurses := true, named := ["sapling/code.words", "unicode/utf8.first", "unicode/utf8.acceptRanges", "internal/bytealg.MaxLen", "internal/strconv.uint64pow10", "math/bits.deBruijn32tab", "math/bits.deBruijn64tab", "strconv.ErrSyntax", "strconv.ErrRange"], apart := false, laid := [("math/bits.deBruijn32tab", laid_math_bits_deBruijn32tab), ("math/bits.deBruijn64tab", laid_math_bits_deBruijn64tab), ("internal/strconv.uint64pow10", laid_internal_strconv_uint64pow10), ("unicode/utf8.acceptRanges", laid_unicode_utf8_acceptRanges), ("strconv.ErrRange", laid_strconv_ErrRange), ("strconv.ErrSyntax", laid_strconv_ErrSyntax), ("sapling/code.words", laid_sapling_code_words), ("unicode/utf8.first", laid_unicode_utf8_first)], narrowed := true }
def VmLoopsUptoSaid : Prop := vmLoopsUptoRow.holds Tryz.pinned (OpenSpec.upto vmLoopsSpec)

/-- 'saplinglaw10.VmDepths', WHERE WHAT IT READS IS OF BULK AT MOST 1048576: true; the input reads as it did. -/
def vmDepthsUptoRow : OpenClaim := { program := "ytbefgplaaghlbaagreatdoor", sum := "d84a1de643780e75dac5f65666948f5dd99b94c4e2dcfc7cdd10311387405a1f", func := "sapling/saplinglaw10.VmDepths", spec := "vmDepths", inPlace := ["internal/bytealg.CountString", "internal/bytealg.IndexByteString", "internal/bytealg.IndexString", "internal/bytealg.abigen_runtime_cmpstring"], unfollowed := true, recurses := true, named := ["sapling/code.words", "unicode/utf8.first", "unicode/utf8.acceptRanges", "internal/bytealg.MaxLen", "internal/strconv.uint64pow10", "math/bits.deBruijn32tab", "math/bits.deBruijn64tab", "strconv.ErrSyntax", "strconv.ErrRange"], apart := false, laid := [("math/bits.deBruijn32tab", laid_math_bits_deBruijn32tab), ("math/bits.deBruijn64tab", laid_math_bits_deBruijn64tab), ("internal/strconv.uint64pow10", laid_internal_strconv_uint64pow10), ("unicode/utf8.acceptRanges", laid_unicode_utf8_acceptRanges), ("strconv.ErrRange", laid_strconv_ErrRange), ("strconv.ErrSyntax", laid_strconv_ErrSyntax), ("sapling/code.words", laid_sapling_code_words), ("unicode/utf8.first", laid_unicode_utf8_first)], narrowed := true }
def VmDepthsUptoSaid : Prop := vmDepthsUptoRow.holds Tryz.pinned (OpenSpec.upto vmDepthsSpec)

/-- 'saplinglaw10.VmSlices', WHERE WHAT IT READS IS OF BULK AT MOST 1048576: true; the input reads as it did. -/
def vmSlicesUptoRow : OpenClaim := { program := "ytbefgplaaghlbaagreatdoor", sum := "d84a1de643780e75dac5f65666948f5dd99b94c4e2dcfc7cdd10311387405a1f", func := "sapling/saplinglaw10.VmSlices", spec := "vmSlices", inPlace := ["internal/bytealg.CountString", "internal/bytealg.IndexByteString", "internal/bytealg.IndexString", "internal/bytealg.abigen_runtime_cmpstring"], unfollowed := true, recurses := true, named := ["sapling/code.words", "unicode/utf8.first", "unicode/utf8.acceptRanges", "internal/bytealg.MaxLen", "internal/strconv.uint64pow10", "math/bits.deBruijn32tab", "math/bits.deBruijn64tab", "strconv.ErrSyntax", "strconv.ErrRange"], apart := false, laid := [("math/bits.deBruijn32tab", laid_math_bits_deBruijn32tab), ("math/bits.deBruijn64tab", laid_math_bits_deBruijn64tab), ("internal/strconv.uint64pow10", laid_internal_strconv_uint64pow10), ("unicode/utf8.acceptRanges", laid_unicode_utf8_acceptRanges), ("strconv.ErrRange", laid_strconv_ErrRange), ("strconv.ErrSyntax", laid_strconv_ErrSyntax), ("sapling/code.words", laid_sapling_code_words), ("unicode/utf8.first", laid_unicode_utf8_first)], narrowed := true }
def VmSlicesUptoSaid : Prop := vmSlicesUptoRow.holds Tryz.pinned (OpenSpec.upto vmSlicesSpec)

end Rows
end Go.Proofs.YtbefgplaaghlbaaGreatDoor
