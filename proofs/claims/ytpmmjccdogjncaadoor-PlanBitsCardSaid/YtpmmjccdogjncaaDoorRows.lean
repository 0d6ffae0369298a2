/-
  NARROWER THAN 'FOR EVERY INPUT', by the rows' own cells (each row's printed sentence says how): PlanTexts: laid · PlanChecks: laid · PlanSeats: laid · PlanRows: laid · PlanBits: laid · PlanBack: laid · ScreenLines: laid · ScreenRenders: laid · ScreenTexts: laid · ScreenWhole: laid · ScreenUnlike: laid.
  DERIVED. THE GIVEN ROWS OF THIS SEAT. 11 by the template 'for every input the law returns true; each argument reads behind the call as it read before'; 0 by the template 'total and deterministic' (their statements: YtpmmjccdogjncaaDoorTotals.lean).
  GIVEN WITH THE SEED: the statements are not yours to turn. If you find one false, say at which input.
  Laid BY PROGRAM, IN A SANDBOX (cutbox-rows.mjs): the forced cells as the released guide's own fill.sh prints them over the translation 5ebffafc1a9e3fea… (all of the seat's roots in one cut). By AI agents, Wed Nov 11 2026. No macro, syntax, notation, axiom, sorry.
-/
import Derived.Test.YtpmmjccdogjncaaDoorChecked
import GoSem.PinnedTables
import GoSem.Claim
import GoSem.ClaimJoined
import GoSem.ClaimMapViews
import Derived.JoinedTies
import Derived.KernelRfl
namespace Go.Proofs.YtpmmjccdogjncaaDoor
/- THE CELL 'sum', in the pinned program and in every row, IS THE sha256 OF THE DUMP (.gsa) THAT YtpmmjccdogjncaaDoorProg.lean LOADS. Nothing in Lean hashes anything: it is a label: what it is worth is what the hold of that sum in a sandbox is worth. -/
noncomputable def Tryd.pinned : Pinned := { name := "ytpmmjccdogjncaadoor", sum := "5ebffafc1a9e3feaae3d000aab3baa197bd603c204e5a7a9aa056e555678ab24", checked := Tryd.checked }
namespace Rows
def none {H : Type} : Left H := { results := [], args := [] }

/- WHAT THE LISTED PACKAGE-LEVEL VARIABLES READ AS WHEN THE CALL BEGINS. Each datum BY PROGRAM (the guide's laid-datum.mjs) off the statement by which the dump's own 'gosem.cut.vars' lays the variable. In a bare row this is a premise. The card (YtpmmjccdogjncaaDoorCards.lean) ties it to the program's text. -/
def laid_math_bits_deBruijn32tab {H : Type} : DataW H := .agg [.lit (.int .u8 0), .lit (.int .u8 1), .lit (.int .u8 28), .lit (.int .u8 2), .lit (.int .u8 29), .lit (.int .u8 14), .lit (.int .u8 24), .lit (.int .u8 3), .lit (.int .u8 30), .lit (.int .u8 22), .lit (.int .u8 20), .lit (.int .u8 15), .lit (.int .u8 25), .lit (.int .u8 17), .lit (.int .u8 4), .lit (.int .u8 8), .lit (.int .u8 31), .lit (.int .u8 27), .lit (.int .u8 13), .lit (.int .u8 23), .lit (.int .u8 21), .lit (.int .u8 19), .lit (.int .u8 16), .lit (.int .u8 7), .lit (.int .u8 26), .lit (.int .u8 12), .lit (.int .u8 18), .lit (.int .u8 6), .lit (.int .u8 11), .lit (.int .u8 5), .lit (.int .u8 10), .lit (.int .u8 9)]
def laid_math_bits_deBruijn64tab {H : Type} : DataW H := .agg [.lit (.int .u8 0), .lit (.int .u8 1), .lit (.int .u8 56), .lit (.int .u8 2), .lit (.int .u8 57), .lit (.int .u8 49), .lit (.int .u8 28), .lit (.int .u8 3), .lit (.int .u8 61), .lit (.int .u8 58), .lit (.int .u8 42), .lit (.int .u8 50), .lit (.int .u8 38), .lit (.int .u8 29), .lit (.int .u8 17), .lit (.int .u8 4), .lit (.int .u8 62), .lit (.int .u8 47), .lit (.int .u8 59), .lit (.int .u8 36), .lit (.int .u8 45), .lit (.int .u8 43), .lit (.int .u8 51), .lit (.int .u8 22), .lit (.int .u8 53), .lit (.int .u8 39), .lit (.int .u8 33), .lit (.int .u8 30), .lit (.int .u8 24), .lit (.int .u8 18), .lit (.int .u8 12), .lit (.int .u8 5), .lit (.int .u8 63), .lit (.int .u8 55), .lit (.int .u8 48), .lit (.int .u8 27), .lit (.int .u8 60), .lit (.int .u8 41), .lit (.int .u8 37), .lit (.int .u8 16), .lit (.int .u8 46), .lit (.int .u8 35), .lit (.int .u8 44), .lit (.int .u8 21), .lit (.int .u8 52), .lit (.int .u8 32), .lit (.int .u8 23), .lit (.int .u8 11), .lit (.int .u8 54), .lit (.int .u8 26), .lit (.int .u8 40), .lit (.int .u8 15), .lit (.int .u8 34), .lit (.int .u8 20), .lit (.int .u8 31), .lit (.int .u8 10), .lit (.int .u8 25), .lit (.int .u8 14), .lit (.int .u8 19), .lit (.int .u8 9), .lit (.int .u8 13), .lit (.int .u8 8), .lit (.int .u8 7), .lit (.int .u8 6)]
def laid_internal_strconv_uint64pow10 {H : Type} : DataW H := .agg [.lit (.int .u64 1), .lit (.int .u64 10), .lit (.int .u64 100), .lit (.int .u64 1000), .lit (.int .u64 10000), .lit (.int .u64 100000), .lit (.int .u64 1000000), .lit (.int .u64 10000000), .lit (.int .u64 100000000), .lit (.int .u64 1000000000), .lit (.int .u64 10000000000), .lit (.int .u64 100000000000), .lit (.int .u64 1000000000000), .lit (.int .u64 10000000000000), .lit (.int .u64 100000000000000), .lit (.int .u64 1000000000000000), .lit (.int .u64 10000000000000000), .lit (.int .u64 100000000000000000), .lit (.int .u64 1000000000000000000), .lit (.int .u64 10000000000000000000)]
def laid_unicode_utf8_acceptRanges {H : Type} : DataW H := .agg [.agg [.lit (.int .u8 128), .lit (.int .u8 191)], .agg [.lit (.int .u8 160), .lit (.int .u8 191)], .agg [.lit (.int .u8 128), .lit (.int .u8 159)], .agg [.lit (.int .u8 144), .lit (.int .u8 191)], .agg [.lit (.int .u8 128), .lit (.int .u8 143)], .agg [.lit (.int .u8 0), .lit (.int .u8 0)], .agg [.lit (.int .u8 0), .lit (.int .u8 0)], .agg [.lit (.int .u8 0), .lit (.int .u8 0)], .agg [.lit (.int .u8 0), .lit (.int .u8 0)], .agg [.lit (.int .u8 0), .lit (.int .u8 0)], .agg [.lit (.int .u8 0), .lit (.int .u8 0)], .agg [.lit (.int .u8 0), .lit (.int .u8 0)], .agg [.lit (.int .u8 0), .lit (.int .u8 0)], .agg [.lit (.int .u8 0), .lit (.int .u8 0)], .agg [.lit (.int .u8 0), .lit (.int .u8 0)], .agg [.lit (.int .u8 0), .lit (.int .u8 0)]]
/-- One of Go's own tables, pinned by name: the form's constant. -/
def laid_unicode_utf8_first : DataW Unit := Go.Pinned.utf8First

/-- 'jetwaylaw09.PlanTexts': WHATEVER THE INPUT: true; the input reads as it did. -/
def planTextsSpec : ChangeSpec := { name := "planTexts", fn := fun _ => fun
  | [d1, d2] => { results := [.lit (.bool true)], args := [d1, d2] }
  | _ => none }
def planTextsRow : OpenClaim := { program := "ytpmmjccdogjncaadoor", sum := "5ebffafc1a9e3feaae3d000aab3baa197bd603c204e5a7a9aa056e555678ab24", func := "jetway/jetwaylaw09.PlanTexts", spec := "planTexts", inPlace := ["internal/bytealg.IndexByteString"], named := ["internal/strconv.uint64pow10", "math/bits.deBruijn32tab", "math/bits.deBruijn64tab"], plainKeys := false, apart := false, laid := [("math/bits.deBruijn32tab", laid_math_bits_deBruijn32tab), ("math/bits.deBruijn64tab", laid_math_bits_deBruijn64tab), ("internal/strconv.uint64pow10", laid_internal_strconv_uint64pow10)] }
def PlanTextsSaid : Prop := planTextsRow.holds Tryd.pinned (OpenSpec.ofChange planTextsSpec)

/-- ITS FALSE NEIGHBOUR: 'it returns false'. Refute it at one input. -/
def planTextsWrong : ChangeSpec := { name := "planTexts", fn := fun _ => fun
  | [d1, d2] => { results := [.lit (.bool false)], args := [d1, d2] }
  | _ => none }
def PlanTextsWrongFalsely : Prop := planTextsRow.holds Tryd.pinned (OpenSpec.ofChange planTextsWrong)

/-- 'jetwaylaw09.PlanChecks': WHATEVER THE INPUT: true; the input reads as it did. -/
def planChecksSpec : ChangeSpec := { name := "planChecks", fn := fun _ => fun
  | [d] => { results := [.lit (.bool true)], args := [d] }
  | _ => none }
def planChecksRow : OpenClaim := { program := "ytpmmjccdogjncaadoor", sum := "5ebffafc1a9e3feaae3d000aab3baa197bd603c204e5a7a9aa056e555678ab24", func := "jetway/jetwaylaw09.PlanChecks", spec := "planChecks", inPlace := ["internal/bytealg.IndexByteString"], named := ["internal/strconv.uint64pow10", "math/bits.deBruijn32tab", "math/bits.deBruijn64tab"], plainKeys := false, apart := false, laid := [("math/bits.deBruijn32tab", laid_math_bits_deBruijn32tab), ("math/bits.deBruijn64tab", laid_math_bits_deBruijn64tab), ("internal/strconv.uint64pow10", laid_internal_strconv_uint64pow10)] }
def PlanChecksSaid : Prop := planChecksRow.holds Tryd.pinned (OpenSpec.ofChange planChecksSpec)

/-- ITS FALSE NEIGHBOUR: 'it returns false'. Refute it at one input. -/
def planChecksWrong : ChangeSpec := { name := "planChecks", fn := fun _ => fun
  | [d] => { results := [.lit (.bool false)], args := [d] }
  | _ => none }
def PlanChecksWrongFalsely : Prop := planChecksRow.holds Tryd.pinned (OpenSpec.ofChange planChecksWrong)

/-- 'jetwaylaw09.PlanSeats': WHATEVER THE INPUT: true; the input reads as it did. -/
def planSeatsSpec : ChangeSpec := { name := "planSeats", fn := fun _ => fun
  | [d1, d2] => { results := [.lit (.bool true)], args := [d1, d2] }
  | _ => none }
def planSeatsRow : OpenClaim := { program := "ytpmmjccdogjncaadoor", sum := "5ebffafc1a9e3feaae3d000aab3baa197bd603c204e5a7a9aa056e555678ab24", func := "jetway/jetwaylaw09.PlanSeats", spec := "planSeats", inPlace := ["internal/bytealg.IndexByteString"], named := ["internal/strconv.uint64pow10", "math/bits.deBruijn32tab", "math/bits.deBruijn64tab"], plainKeys := false, apart := false, laid := [("math/bits.deBruijn32tab", laid_math_bits_deBruijn32tab), ("math/bits.deBruijn64tab", laid_math_bits_deBruijn64tab), ("internal/strconv.uint64pow10", laid_internal_strconv_uint64pow10)] }
def PlanSeatsSaid : Prop := planSeatsRow.holds Tryd.pinned (OpenSpec.ofChange planSeatsSpec)

/-- ITS FALSE NEIGHBOUR: 'it returns false'. Refute it at one input. -/
def planSeatsWrong : ChangeSpec := { name := "planSeats", fn := fun _ => fun
  | [d1, d2] => { results := [.lit (.bool false)], args := [d1, d2] }
  | _ => none }
def PlanSeatsWrongFalsely : Prop := planSeatsRow.holds Tryd.pinned (OpenSpec.ofChange planSeatsWrong)

/-- 'jetwaylaw09.PlanRows': WHATEVER THE INPUT: true; the input reads as it did. -/
def planRowsSpec : ChangeSpec := { name := "planRows", fn := fun _ => fun
  | [d] => { results := [.lit (.bool true)], args := [d] }
  | _ => none }
def planRowsRow : OpenClaim := { program := "ytpmmjccdogjncaadoor", sum := "5ebffafc1a9e3feaae3d000aab3baa197bd603c204e5a7a9aa056e555678ab24", func := "jetway/jetwaylaw09.PlanRows", spec := "planRows", inPlace := ["internal/bytealg.IndexByteString"], named := ["internal/strconv.uint64pow10", "math/bits.deBruijn32tab", "math/bits.deBruijn64tab"], plainKeys := false, apart := false, laid := [("math/bits.deBruijn32tab", laid_math_bits_deBruijn32tab), ("math/bits.deBruijn64tab", laid_math_bits_deBruijn64tab), ("internal/strconv.uint64pow10", laid_internal_strconv_uint64pow10)] }
def PlanRowsSaid : Prop := planRowsRow.holds Tryd.pinned (OpenSpec.ofChange planRowsSpec)

/-- ITS FALSE NEIGHBOUR: 'it returns false'. Refute it at one input. -/
def planRowsWrong : ChangeSpec := { name := "planRows", fn := fun _ => fun
  | [d] => { results := [.lit (.bool false)], args := [d] }
  | _ => none }
def PlanRowsWrongFalsely : Prop := planRowsRow.holds Tryd.pinned (OpenSpec.ofChange planRowsWrong)

/-- 'jetwaylaw09.PlanBits': WHATEVER THE INPUT: true; the input reads as it did. -/
def planBitsSpec : ChangeSpec := { name := "planBits", fn := fun _ => fun
  | [d1, d2, d3, d4] => { results := [.lit (.bool true)], args := [d1, d2, d3, d4] }
  | _ => none }
def planBitsRow : OpenClaim := { program := "ytpmmjccdogjncaadoor", sum := "5ebffafc1a9e3feaae3d000aab3baa197bd603c204e5a7a9aa056e555678ab24", func := "jetway/jetwaylaw09.PlanBits", spec := "planBits", inPlace := ["internal/bytealg.IndexByteString"], named := ["internal/strconv.uint64pow10", "math/bits.deBruijn32tab", "math/bits.deBruijn64tab"], plainKeys := false, apart := false, laid := [("math/bits.deBruijn32tab", laid_math_bits_deBruijn32tab), ("math/bits.deBruijn64tab", laid_math_bits_deBruijn64tab), ("internal/strconv.uint64pow10", laid_internal_strconv_uint64pow10)] }
def PlanBitsSaid : Prop := planBitsRow.holds Tryd.pinned (OpenSpec.ofChange planBitsSpec)

/-- ITS FALSE NEIGHBOUR: 'it returns false'. Refute it at one input. -/
def planBitsWrong : ChangeSpec := { name := "planBits", fn := fun _ => fun
  | [d1, d2, d3, d4] => { results := [.lit (.bool false)], args := [d1, d2, d3, d4] }
  | _ => none }
def PlanBitsWrongFalsely : Prop := planBitsRow.holds Tryd.pinned (OpenSpec.ofChange planBitsWrong)

/-- 'jetwaylaw09.PlanBack': WHATEVER THE INPUT: true; the input reads as it did. -/
def planBackSpec : ChangeSpec := { name := "planBack", fn := fun _ => fun
  | [d1, d2, d3] => { results := [.lit (.bool true)], args := [d1, d2, d3] }
  | _ => none }
def planBackRow : OpenClaim := { program := "ytpmmjccdogjncaadoor", sum := "5ebffafc1a9e3feaae3d000aab3baa197bd603c204e5a7a9aa056e555678ab24", func := "jetway/jetwaylaw09.PlanBack", spec := "planBack", inPlace := ["internal/bytealg.IndexByteString"], named := ["internal/strconv.uint64pow10", "math/bits.deBruijn32tab", "math/bits.deBruijn64tab"], plainKeys := false, apart := false, laid := [("math/bits.deBruijn32tab", laid_math_bits_deBruijn32tab), ("math/bits.deBruijn64tab", laid_math_bits_deBruijn64tab), ("internal/strconv.uint64pow10", laid_internal_strconv_uint64pow10)] }
def PlanBackSaid : Prop := planBackRow.holds Tryd.pinned (OpenSpec.ofChange planBackSpec)

/-- ITS FALSE NEIGHBOUR: 'it returns false'. Refute it at one input. -/
def planBackWrong : ChangeSpec := { name := "planBack", fn := fun _ => fun
  | [d1, d2, d3] => { results := [.lit (.bool false)], args := [d1, d2, d3] }
  | _ => none }
def PlanBackWrongFalsely : Prop := planBackRow.holds Tryd.pinned (OpenSpec.ofChange planBackWrong)

/-- 'jetwaylaw21.ScreenLines': WHATEVER THE INPUT: true; the input reads as it did. -/
def screenLinesSpec : ChangeSpec := { name := "screenLines", fn := fun _ => fun
  | [d] => { results := [.lit (.bool true)], args := [d] }
  | _ => none }
def screenLinesRow : OpenClaim := { program := "ytpmmjccdogjncaadoor", sum := "5ebffafc1a9e3feaae3d000aab3baa197bd603c204e5a7a9aa056e555678ab24", func := "jetway/jetwaylaw21.ScreenLines", spec := "screenLines", inPlace := ["internal/bytealg.IndexByteString", "internal/bytealg.IndexString"], named := ["internal/strconv.uint64pow10", "math/bits.deBruijn32tab", "math/bits.deBruijn64tab", "unicode/utf8.first", "unicode/utf8.acceptRanges", "internal/bytealg.MaxLen"], plainKeys := false, apart := false, laid := [("math/bits.deBruijn32tab", laid_math_bits_deBruijn32tab), ("math/bits.deBruijn64tab", laid_math_bits_deBruijn64tab), ("internal/strconv.uint64pow10", laid_internal_strconv_uint64pow10), ("unicode/utf8.acceptRanges", laid_unicode_utf8_acceptRanges), ("unicode/utf8.first", laid_unicode_utf8_first)] }
def ScreenLinesSaid : Prop := screenLinesRow.holds Tryd.pinned (OpenSpec.ofChange screenLinesSpec)

/-- ITS FALSE NEIGHBOUR: 'it returns false'. Refute it at one input. -/
def screenLinesWrong : ChangeSpec := { name := "screenLines", fn := fun _ => fun
  | [d] => { results := [.lit (.bool false)], args := [d] }
  | _ => none }
def ScreenLinesWrongFalsely : Prop := screenLinesRow.holds Tryd.pinned (OpenSpec.ofChange screenLinesWrong)

/-- 'jetwaylaw21.ScreenRenders': WHATEVER THE INPUT: true; the input reads as it did. -/
def screenRendersSpec : ChangeSpec := { name := "screenRenders", fn := fun _ => fun
  | [d1, d2] => { results := [.lit (.bool true)], args := [d1, d2] }
  | _ => none }
def screenRendersRow : OpenClaim := { program := "ytpmmjccdogjncaadoor", sum := "5ebffafc1a9e3feaae3d000aab3baa197bd603c204e5a7a9aa056e555678ab24", func := "jetway/jetwaylaw21.ScreenRenders", spec := "screenRenders", inPlace := ["internal/bytealg.IndexByteString", "internal/bytealg.IndexString"], named := ["internal/strconv.uint64pow10", "math/bits.deBruijn32tab", "math/bits.deBruijn64tab", "unicode/utf8.first", "unicode/utf8.acceptRanges", "internal/bytealg.MaxLen"], plainKeys := false, apart := false, laid := [("math/bits.deBruijn32tab", laid_math_bits_deBruijn32tab), ("math/bits.deBruijn64tab", laid_math_bits_deBruijn64tab), ("internal/strconv.uint64pow10", laid_internal_strconv_uint64pow10), ("unicode/utf8.acceptRanges", laid_unicode_utf8_acceptRanges), ("unicode/utf8.first", laid_unicode_utf8_first)] }
def ScreenRendersSaid : Prop := screenRendersRow.holds Tryd.pinned (OpenSpec.ofChange screenRendersSpec)

/-- ITS FALSE NEIGHBOUR: 'it returns false'. Refute it at one input. -/
def screenRendersWrong : ChangeSpec := { name := "screenRenders", fn := fun _ => fun
  | [d1, d2] => { results := [.lit (.bool false)], args := [d1, d2] }
  | _ => none }
def ScreenRendersWrongFalsely : Prop := screenRendersRow.holds Tryd.pinned (OpenSpec.ofChange screenRendersWrong)

/-- 'jetwaylaw21.ScreenTexts': WHATEVER THE INPUT: true; the input reads as it did. -/
def screenTextsSpec : ChangeSpec := { name := "screenTexts", fn := fun _ => fun
  | [d1, d2] => { results := [.lit (.bool true)], args := [d1, d2] }
  | _ => none }
def screenTextsRow : OpenClaim := { program := "ytpmmjccdogjncaadoor", sum := "5ebffafc1a9e3feaae3d000aab3baa197bd603c204e5a7a9aa056e555678ab24", func := "jetway/jetwaylaw21.ScreenTexts", spec := "screenTexts", inPlace := ["internal/bytealg.IndexByteString", "internal/bytealg.IndexString"], named := ["internal/strconv.uint64pow10", "math/bits.deBruijn32tab", "math/bits.deBruijn64tab", "unicode/utf8.first", "unicode/utf8.acceptRanges", "internal/bytealg.MaxLen"], plainKeys := false, apart := false, laid := [("math/bits.deBruijn32tab", laid_math_bits_deBruijn32tab), ("math/bits.deBruijn64tab", laid_math_bits_deBruijn64tab), ("internal/strconv.uint64pow10", laid_internal_strconv_uint64pow10), ("unicode/utf8.acceptRanges", laid_unicode_utf8_acceptRanges), ("unicode/utf8.first", laid_unicode_utf8_first)] }
def ScreenTextsSaid : Prop := screenTextsRow.holds Tryd.pinned (OpenSpec.ofChange screenTextsSpec)

/-- ITS FALSE NEIGHBOUR: 'it returns false'. Refute it at one input. -/
def screenTextsWrong : ChangeSpec := { name := "screenTexts", fn := fun _ => fun
  | [d1, d2] => { results := [.lit (.bool false)], args := [d1, d2] }
  | _ => none }
def ScreenTextsWrongFalsely : Prop := screenTextsRow.holds Tryd.pinned (OpenSpec.ofChange screenTextsWrong)

/-- 'jetwaylaw21.ScreenWhole': WHATEVER THE INPUT: true; the input reads as it did. -/
def screenWholeSpec : ChangeSpec := { name := "screenWhole", fn := fun _ => fun
  | [d1, d2] => { results := [.lit (.bool true)], args := [d1, d2] }
  | _ => none }
def screenWholeRow : OpenClaim := { program := "ytpmmjccdogjncaadoor", sum := "5ebffafc1a9e3feaae3d000aab3baa197bd603c204e5a7a9aa056e555678ab24", func := "jetway/jetwaylaw21.ScreenWhole", spec := "screenWhole", inPlace := ["internal/bytealg.IndexByteString", "internal/bytealg.IndexString"], named := ["internal/strconv.uint64pow10", "math/bits.deBruijn32tab", "math/bits.deBruijn64tab", "unicode/utf8.first", "unicode/utf8.acceptRanges", "internal/bytealg.MaxLen"], plainKeys := false, apart := false, laid := [("math/bits.deBruijn32tab", laid_math_bits_deBruijn32tab), ("math/bits.deBruijn64tab", laid_math_bits_deBruijn64tab), ("internal/strconv.uint64pow10", laid_internal_strconv_uint64pow10), ("unicode/utf8.acceptRanges", laid_unicode_utf8_acceptRanges), ("unicode/utf8.first", laid_unicode_utf8_first)] }
def ScreenWholeSaid : Prop := screenWholeRow.holds Tryd.pinned (OpenSpec.ofChange screenWholeSpec)

/-- ITS FALSE NEIGHBOUR: 'it returns false'. Refute it at one input. -/
def screenWholeWrong : ChangeSpec := { name := "screenWhole", fn := fun _ => fun
  | [d1, d2] => { results := [.lit (.bool false)], args := [d1, d2] }
  | _ => none }
def ScreenWholeWrongFalsely : Prop := screenWholeRow.holds Tryd.pinned (OpenSpec.ofChange screenWholeWrong)

/-- 'jetwaylaw21.ScreenUnlike': WHATEVER THE INPUT: true; the input reads as it did. -/
def screenUnlikeSpec : ChangeSpec := { name := "screenUnlike", fn := fun _ => fun
  | [d1, d2] => { results := [.lit (.bool true)], args := [d1, d2] }
  | _ => none }
def screenUnlikeRow : OpenClaim := { program := "ytpmmjccdogjncaadoor", sum := "5ebffafc1a9e3feaae3d000aab3baa197bd603c204e5a7a9aa056e555678ab24", func := "jetway/jetwaylaw21.ScreenUnlike", spec := "screenUnlike", inPlace := ["internal/bytealg.IndexByteString", "internal/bytealg.IndexString"], named := ["internal/strconv.uint64pow10", "math/bits.deBruijn32tab", "math/bits.deBruijn64tab", "unicode/utf8.first", "unicode/utf8.acceptRanges", "internal/bytealg.MaxLen"], plainKeys := false, apart := false, laid := [("math/bits.deBruijn32tab", laid_math_bits_deBruijn32tab), ("math/bits.deBruijn64tab", laid_math_bits_deBruijn64tab), ("internal/strconv.uint64pow10", laid_internal_strconv_uint64pow10), ("unicode/utf8.acceptRanges", laid_unicode_utf8_acceptRanges), ("unicode/utf8.first", laid_unicode_utf8_first)] }
def ScreenUnlikeSaid : Prop := screenUnlikeRow.holds Tryd.pinned (OpenSpec.ofChange screenUnlikeSpec)

/-- ITS FALSE NEIGHBOUR: 'it returns false'. Refute it at one input. -/
def screenUnlikeWrong : ChangeSpec := { name := "screenUnlike", fn := fun _ => fun
  | [d1, d2] => { results := [.lit (.bool false)], args := [d1, d2] }
  | _ => none }
def ScreenUnlikeWrongFalsely : Prop := screenUnlikeRow.holds Tryd.pinned (OpenSpec.ofChange screenUnlikeWrong)

/- THE SECOND FORM. 'bulk': how many values and letters a reading holds, each counted each time it is reached (what is shared counts as often as it is met; a slice's spare places count too). A statement '..UptoSaid' is the law's where the arguments, and the package variables that the reading takes, are together of bulk at most 1048576: NARROWER than '..Said'. Prove '..Said' where nothing that the law and all that it calls make is longer than what came in: it says more and counts as full. Else prove '..UptoSaid'. A law counts once. -/
mutual
def uptoBulk {H : Type} : DataW H → Nat
  | .lit (.string bytes) => bytes.length + 1
  | .lit _ => 1
  | .nil => 1
  | .ptr d => uptoBulk d + 1
  | .slice elems spare => uptoBulkAll elems + uptoBulkAll spare + 1
  | .agg parts => uptoBulkAll parts + 1
  | .iface _ d => uptoBulk d + 1
  | .map entries => uptoBulkEntries entries + 1
  | .held _ => 1
def uptoBulkAll {H : Type} : List (DataW H) → Nat
  | [] => 0
  | d :: r => uptoBulk d + uptoBulkAll r
def uptoBulkEntries {H : Type} : List (Lit × DataW H) → Nat
  | [] => 0
  | x :: r => uptoBulkEntry x + uptoBulkEntries r
def uptoBulkEntry {H : Type} : Lit × DataW H → Nat
  | (.string bytes, d) => bytes.length + uptoBulk d + 1
  | (_, d) => uptoBulk d + 1
 end
def uptoSmall : (H : Type) → List (DataW H) → Bool := fun _ ds => decide (uptoBulkAll ds ≤ 1048576)
def OpenSpec.upto (s : _root_.Go.ChangeSpec) : _root_.Go.OpenSpec := { _root_.Go.OpenSpec.ofChange s with cond := some uptoSmall }

/-- 'jetwaylaw09.PlanTexts', WHERE WHAT IT READS IS OF BULK AT MOST 1048576: true; the input reads as it did. -/
def planTextsUptoRow : OpenClaim := { program := "ytpmmjccdogjncaadoor", sum := "5ebffafc1a9e3feaae3d000aab3baa197bd603c204e5a7a9aa056e555678ab24", func := "jetway/jetwaylaw09.PlanTexts", spec := "planTexts", inPlace := ["internal/bytealg.IndexByteString"], named := ["internal/strconv.uint64pow10", "math/bits.deBruijn32tab", "math/bits.deBruijn64tab"], plainKeys := false, apart := false, laid := [("math/bits.deBruijn32tab", laid_math_bits_deBruijn32tab), ("math/bits.deBruijn64tab", laid_math_bits_deBruijn64tab), ("internal/strconv.uint64pow10", laid_internal_strconv_uint64pow10)], narrowed := true }
def PlanTextsUptoSaid : Prop := planTextsUptoRow.holds Tryd.pinned (OpenSpec.upto planTextsSpec)

/-- 'jetwaylaw09.PlanChecks', WHERE WHAT IT READS IS OF BULK AT MOST 1048576: true; the input reads as it did. -/
def planChecksUptoRow : OpenClaim := { program := "ytpmmjccdogjncaadoor", sum := "5ebffafc1a9e3feaae3d000aab3baa197bd603c204e5a7a9aa056e555678ab24", func := "jetway/jetwaylaw09.PlanChecks", spec := "planChecks", inPlace := ["internal/bytealg.IndexByteString"], named := ["internal/strconv.uint64pow10", "math/bits.deBruijn32tab", "math/bits.deBruijn64tab"], plainKeys := false, apart := false, laid := [("math/bits.deBruijn32tab", laid_math_bits_deBruijn32tab), ("math/bits.deBruijn64tab", laid_math_bits_deBruijn64tab), ("internal/strconv.uint64pow10", laid_internal_strconv_uint64pow10)], narrowed := true }
def PlanChecksUptoSaid : Prop := planChecksUptoRow.holds Tryd.pinned (OpenSpec.upto planChecksSpec)

/-- 'jetwaylaw09.PlanSeats', WHERE WHAT IT READS IS OF BULK AT MOST 1048576: true; the input reads as it did. -/
def planSeatsUptoRow : OpenClaim := { program := "ytpmmjccdogjncaadoor", sum := "5ebffafc1a9e3feaae3d000aab3baa197bd603c204e5a7a9aa056e555678ab24", func := "jetway/jetwaylaw09.PlanSeats", spec := "planSeats", inPlace := ["internal/bytealg.IndexByteString"], named := ["internal/strconv.uint64pow10", "math/bits.deBruijn32tab", "math/bits.deBruijn64tab"], plainKeys := false, apart := false, laid := [("math/bits.deBruijn32tab", laid_math_bits_deBruijn32tab), ("math/bits.deBruijn64tab", laid_math_bits_deBruijn64tab), ("internal/strconv.uint64pow10", laid_internal_strconv_uint64pow10)], narrowed := true }
def PlanSeatsUptoSaid : Prop := planSeatsUptoRow.holds Tryd.pinned (OpenSpec.upto planSeatsSpec)

/-- 'jetwaylaw09.PlanRows', WHERE WHAT IT READS IS OF BULK AT MOST 1048576: true; the input reads as it did. -/
def planRowsUptoRow : OpenClaim := { program := "ytpmmjccdogjncaadoor", sum := "5ebffafc1a9e3feaae3d000aab3baa197bd603c204e5a7a9aa056e555678ab24", func := "jetway/jetwaylaw09.PlanRows", spec := "planRows", inPlace := ["internal/bytealg.IndexByteString"], named := ["internal/strconv.uint64pow10", "math/bits.deBruijn32tab", "math/bits.deBruijn64tab"], plainKeys := false, apart := false, laid := [("math/bits.deBruijn32tab", laid_math_bits_deBruijn32tab), ("math/bits.deBruijn64tab", laid_math_bits_deBruijn64tab), ("internal/strconv.uint64pow10", laid_internal_strconv_uint64pow10)], narrowed := true }
def PlanRowsUptoSaid : Prop := planRowsUptoRow.holds Tryd.pinned (OpenSpec.upto planRowsSpec)

/-- 'jetwaylaw09.PlanBits', WHERE WHAT IT READS IS OF BULK AT MOST 1048576: true; the input reads as it did. -/
def planBitsUptoRow : OpenClaim := { program := "ytpmmjccdogjncaadoor", sum := "5ebffafc1a9e3feaae3d000aab3baa197bd603c204e5a7a9aa056e555678ab24", func := "jetway/jetwaylaw09.PlanBits", spec := "planBits", inPlace := ["internal/bytealg.IndexByteString"], named := ["internal/strconv.uint64pow10", "math/bits.deBruijn32tab", "math/bits.deBruijn64tab"], plainKeys := false, apart := false, laid := [("math/bits.deBruijn32tab", laid_math_bits_deBruijn32tab), ("math/bits.deBruijn64tab", laid_math_bits_deBruijn64tab), ("internal/strconv.uint64pow10", laid_internal_strconv_uint64pow10)], narrowed := true }
def PlanBitsUptoSaid : Prop := planBitsUptoRow.holds Tryd.pinned (OpenSpec.upto planBitsSpec)

/-- 'jetwaylaw09.PlanBack', WHERE WHAT IT READS IS OF BULK AT MOST 1048576: true; the input reads as it did. -/
def planBackUptoRow : OpenClaim := { program := "ytpmmjccdogjncaadoor", sum := "5ebffafc1a9e3feaae3d000aab3baa197bd603c204e5a7a9aa056e555678ab24", func := "jetway/jetwaylaw09.PlanBack", spec := "planBack", inPlace := ["internal/bytealg.IndexByteString"], named := ["internal/strconv.uint64pow10", "math/bits.deBruijn32tab", "math/bits.deBruijn64tab"], plainKeys := false, apart := false, laid := [("math/bits.deBruijn32tab", laid_math_bits_deBruijn32tab), ("math/bits.deBruijn64tab", laid_math_bits_deBruijn64tab), ("internal/strconv.uint64pow10", laid_internal_strconv_uint64pow10)], narrowed := true }
def PlanBackUptoSaid : Prop := planBackUptoRow.holds Tryd.pinned (OpenSpec.upto planBackSpec)

/-- 'jetwaylaw21.ScreenLines', WHERE WHAT IT READS IS OF BULK AT MOST 1048576: true; the input reads as it did. -/
def screenLinesUptoRow : OpenClaim := { program := "ytpmmjccdogjncaadoor", sum := "5ebffafc1a9e3feaae3d000aab3baa197bd603c204e5a7a9aa056e555678ab24", func := "jetway/jetwaylaw21.ScreenLines", spec := "screenLines", inPlace := ["internal/bytealg.IndexByteString", "internal/bytealg.IndexString"], named := ["internal/strconv.uint64pow10", "math/bits.deBruijn32tab", "math/bits.deBruijn64tab", "unicode/utf8.first", "unicode/utf8.acceptRanges", "internal/bytealg.MaxLen"], plainKeys := false, apart := false, laid := [("math/bits.deBruijn32tab", laid_math_bits_deBruijn32tab), ("math/bits.deBruijn64tab", laid_math_bits_deBruijn64tab), ("internal/strconv.uint64pow10", laid_internal_strconv_uint64pow10), ("unicode/utf8.acceptRanges", laid_unicode_utf8_acceptRanges), ("unicode/utf8.first", laid_unicode_utf8_first)], narrowed := true }
def ScreenLinesUptoSaid : Prop := screenLinesUptoRow.holds Tryd.pinned (OpenSpec.upto screenLinesSpec)

/-- 'jetwaylaw21.ScreenRenders', WHERE WHAT IT READS IS OF BULK AT MOST 1048576: true; the input reads as it did. -/
def screenRendersUptoRow : OpenClaim := { program := "ytpmmjccdogjncaadoor", sum := "5ebffafc1a9e3feaae3d000aab3baa197bd603c204e5a7a9aa056e555678ab24", func := "jetway/jetwaylaw21.ScreenRenders", spec := "screenRenders", inPlace := ["internal/bytealg.IndexByteString", "internal/bytealg.IndexString"], named := ["internal/strconv.uint64pow10", "math/bits.deBruijn32tab", "math/bits.deBruijn64tab", "unicode/utf8.first", "unicode/utf8.acceptRanges", "internal/bytealg.MaxLen"], plainKeys := false, apart := false, laid := [("math/bits.deBruijn32tab", laid_math_bits_deBruijn32tab), ("math/bits.deBruijn64tab", laid_math_bits_deBruijn64tab), ("internal/strconv.uint64pow10", laid_internal_strconv_uint64pow10), ("unicode/utf8.acceptRanges", laid_unicode_utf8_acceptRanges), ("unicode/utf8.first", laid_unicode_utf8_first)], narrowed := true }
def ScreenRendersUptoSaid : Prop := screenRendersUptoRow.holds Tryd.pinned (OpenSpec.upto screenRendersSpec)

/-- 'jetwaylaw21.ScreenTexts', WHERE WHAT IT READS IS OF BULK AT MOST 1048576: true; the input reads as it did. -/
def screenTextsUptoRow : OpenClaim := { program := "ytpmmjccdogjncaadoor", sum := "5ebffafc1a9e3feaae3d000aab3baa197bd603c204e5a7a9aa056e555678ab24", func := "jetway/jetwaylaw21.ScreenTexts", spec := "screenTexts", inPlace := ["internal/bytealg.IndexByteString", "internal/bytealg.IndexString"], named := ["internal/strconv.uint64pow10", "math/bits.deBruijn32tab", "math/bits.deBruijn64tab", "unicode/utf8.first", "unicode/utf8.acceptRanges", "internal/bytealg.MaxLen"], plainKeys := false, apart := false, laid := [("math/bits.deBruijn32tab", laid_math_bits_deBruijn32tab), ("math/bits.deBruijn64tab", laid_math_bits_deBruijn64tab), ("internal/strconv.uint64pow10", laid_internal_strconv_uint64pow10), ("unicode/utf8.acceptRanges", laid_unicode_utf8_acceptRanges), ("unicode/utf8.first", laid_unicode_utf8_first)], narrowed := true }
def ScreenTextsUptoSaid : Prop := screenTextsUptoRow.holds Tryd.pinned (OpenSpec.upto screenTextsSpec)

/-- 'jetwaylaw21.ScreenWhole', WHERE WHAT IT READS IS OF BULK AT MOST 1048576: true; the input reads as it did. -/
def screenWholeUptoRow : OpenClaim := { program := "ytpmmjccdogjncaadoor", sum := "5ebffafc1a9e3feaae3d000aab3baa197bd603c204e5a7a9aa056e555678ab24", func := "jetway/jetwaylaw21.ScreenWhole", spec := "screenWhole", inPlace := ["internal/bytealg.IndexByteString", "internal/bytealg.IndexString"], named := ["internal/strconv.uint64pow10", "math/bits.deBruijn32tab", "math/bits.deBruijn64tab", "unicode/utf8.first", "unicode/utf8.acceptRanges", "internal/bytealg.MaxLen"], plainKeys := false, apart := false, laid := [("math/bits.deBruijn32tab", laid_math_bits_deBruijn32tab), ("math/bits.deBruijn64tab", laid_math_bits_deBruijn64tab), ("internal/strconv.uint64pow10", laid_internal_strconv_uint64pow10), ("unicode/utf8.acceptRanges", laid_unicode_utf8_acceptRanges), ("unicode/utf8.first", laid_unicode_utf8_first)], narrowed := true }
def ScreenWholeUptoSaid : Prop := screenWholeUptoRow.holds Tryd.pinned (OpenSpec.upto screenWholeSpec)

/-- 'jetwaylaw21.ScreenUnlike', WHERE WHAT IT READS IS OF BULK AT MOST 1048576: true; the input reads as it did. -/
def screenUnlikeUptoRow : OpenClaim := { program := "ytpmmjccdogjncaadoor", sum := "5ebffafc1a9e3feaae3d000aab3baa197bd603c204e5a7a9aa056e555678ab24", func := "jetway/jetwaylaw21.ScreenUnlike", spec := "screenUnlike", inPlace := ["internal/bytealg.IndexByteString", "internal/bytealg.IndexString"], named := ["internal/strconv.uint64pow10", "math/bits.deBruijn32tab", "math/bits.deBruijn64tab", "unicode/utf8.first", "unicode/utf8.acceptRanges", "internal/bytealg.MaxLen"], plainKeys := false, apart := false, laid := [("math/bits.deBruijn32tab", laid_math_bits_deBruijn32tab), ("math/bits.deBruijn64tab", laid_math_bits_deBruijn64tab), ("internal/strconv.uint64pow10", laid_internal_strconv_uint64pow10), ("unicode/utf8.acceptRanges", laid_unicode_utf8_acceptRanges), ("unicode/utf8.first", laid_unicode_utf8_first)], narrowed := true }
def ScreenUnlikeUptoSaid : Prop := screenUnlikeUptoRow.holds Tryd.pinned (OpenSpec.upto screenUnlikeSpec)

end Rows
end Go.Proofs.YtpmmjccdogjncaaDoor
