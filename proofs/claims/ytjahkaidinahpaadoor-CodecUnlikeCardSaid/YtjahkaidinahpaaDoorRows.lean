/-
  NARROWER THAN 'FOR EVERY INPUT', by the rows' own cells (each row's printed sentence says how): CodecUnlike: laid · CodecRows: laid · EntryParses: laid · EntryPrints: laid · EntryBack: laid · EntryFaults: laid · EntryMore: laid · CodecLegs: laid · CodecBack: laid · CodecOnly: laid.
  DERIVED. THE GIVEN ROWS OF THIS SEAT. 10 by the template 'for every input the law returns true; each argument reads behind the call as it read before'; 0 by the template 'total and deterministic' (their statements: YtjahkaidinahpaaDoorTotals.lean).
  GIVEN WITH THE SEED: the statements are not yours to turn. If you find one false, say at which input.
  Laid BY PROGRAM, IN A SANDBOX (cutbox-rows.mjs): the forced cells as the released guide's own fill.sh prints them over the translation c7f30431a605f25f… (all of the seat's roots in one cut). By AI agents, Wed Nov 11 2026. No macro, syntax, notation, axiom, sorry.
-/
import Derived.Test.YtjahkaidinahpaaDoorChecked
import GoSem.Claim
import GoSem.ClaimJoined
import GoSem.ClaimMapViews
import Derived.JoinedTies
import Derived.KernelRfl
namespace Go.Proofs.YtjahkaidinahpaaDoor
/- THE CELL 'sum', in the pinned program and in every row, IS THE sha256 OF THE DUMP (.gsa) THAT YtjahkaidinahpaaDoorProg.lean LOADS. Nothing in Lean hashes anything: it is a label: what it is worth is what the hold of that sum in a sandbox is worth. -/
noncomputable def Tryd.pinned : Pinned := { name := "ytjahkaidinahpaadoor", sum := "c7f30431a605f25ffd411d475c3d63785d7ffef7cca9189bd001304c6e6d130c", checked := Tryd.checked }
namespace Rows
def none {H : Type} : Left H := { results := [], args := [] }

/- WHAT THE LISTED PACKAGE-LEVEL VARIABLES READ AS WHEN THE CALL BEGINS. Each datum BY PROGRAM (the guide's laid-datum.mjs) off the statement by which the dump's own 'gosem.cut.vars' lays the variable. In a bare row this is a premise. The card (YtjahkaidinahpaaDoorCards.lean) ties it to the program's text. -/
def laid_math_bits_deBruijn32tab {H : Type} : DataW H := .agg [.lit (.int .u8 0), .lit (.int .u8 1), .lit (.int .u8 28), .lit (.int .u8 2), .lit (.int .u8 29), .lit (.int .u8 14), .lit (.int .u8 24), .lit (.int .u8 3), .lit (.int .u8 30), .lit (.int .u8 22), .lit (.int .u8 20), .lit (.int .u8 15), .lit (.int .u8 25), .lit (.int .u8 17), .lit (.int .u8 4), .lit (.int .u8 8), .lit (.int .u8 31), .lit (.int .u8 27), .lit (.int .u8 13), .lit (.int .u8 23), .lit (.int .u8 21), .lit (.int .u8 19), .lit (.int .u8 16), .lit (.int .u8 7), .lit (.int .u8 26), .lit (.int .u8 12), .lit (.int .u8 18), .lit (.int .u8 6), .lit (.int .u8 11), .lit (.int .u8 5), .lit (.int .u8 10), .lit (.int .u8 9)]
def laid_math_bits_deBruijn64tab {H : Type} : DataW H := .agg [.lit (.int .u8 0), .lit (.int .u8 1), .lit (.int .u8 56), .lit (.int .u8 2), .lit (.int .u8 57), .lit (.int .u8 49), .lit (.int .u8 28), .lit (.int .u8 3), .lit (.int .u8 61), .lit (.int .u8 58), .lit (.int .u8 42), .lit (.int .u8 50), .lit (.int .u8 38), .lit (.int .u8 29), .lit (.int .u8 17), .lit (.int .u8 4), .lit (.int .u8 62), .lit (.int .u8 47), .lit (.int .u8 59), .lit (.int .u8 36), .lit (.int .u8 45), .lit (.int .u8 43), .lit (.int .u8 51), .lit (.int .u8 22), .lit (.int .u8 53), .lit (.int .u8 39), .lit (.int .u8 33), .lit (.int .u8 30), .lit (.int .u8 24), .lit (.int .u8 18), .lit (.int .u8 12), .lit (.int .u8 5), .lit (.int .u8 63), .lit (.int .u8 55), .lit (.int .u8 48), .lit (.int .u8 27), .lit (.int .u8 60), .lit (.int .u8 41), .lit (.int .u8 37), .lit (.int .u8 16), .lit (.int .u8 46), .lit (.int .u8 35), .lit (.int .u8 44), .lit (.int .u8 21), .lit (.int .u8 52), .lit (.int .u8 32), .lit (.int .u8 23), .lit (.int .u8 11), .lit (.int .u8 54), .lit (.int .u8 26), .lit (.int .u8 40), .lit (.int .u8 15), .lit (.int .u8 34), .lit (.int .u8 20), .lit (.int .u8 31), .lit (.int .u8 10), .lit (.int .u8 25), .lit (.int .u8 14), .lit (.int .u8 19), .lit (.int .u8 9), .lit (.int .u8 13), .lit (.int .u8 8), .lit (.int .u8 7), .lit (.int .u8 6)]
def laid_internal_strconv_uint64pow10 {H : Type} : DataW H := .agg [.lit (.int .u64 1), .lit (.int .u64 10), .lit (.int .u64 100), .lit (.int .u64 1000), .lit (.int .u64 10000), .lit (.int .u64 100000), .lit (.int .u64 1000000), .lit (.int .u64 10000000), .lit (.int .u64 100000000), .lit (.int .u64 1000000000), .lit (.int .u64 10000000000), .lit (.int .u64 100000000000), .lit (.int .u64 1000000000000), .lit (.int .u64 10000000000000), .lit (.int .u64 100000000000000), .lit (.int .u64 1000000000000000), .lit (.int .u64 10000000000000000), .lit (.int .u64 100000000000000000), .lit (.int .u64 1000000000000000000), .lit (.int .u64 10000000000000000000)]
def laid_jetway_date_lengths {H : Type} : DataW H := .agg [.lit (.int .i64 31), .lit (.int .i64 29), .lit (.int .i64 31), .lit (.int .i64 30), .lit (.int .i64 31), .lit (.int .i64 30), .lit (.int .i64 31), .lit (.int .i64 31), .lit (.int .i64 30), .lit (.int .i64 31), .lit (.int .i64 30), .lit (.int .i64 31)]

/-- 'jetwaylaw14.CodecUnlike': WHATEVER THE INPUT: true; the input reads as it did. -/
def codecUnlikeSpec : ChangeSpec := { name := "codecUnlike", fn := fun _ => fun
  | [d1, d2, d3] => { results := [.lit (.bool true)], args := [d1, d2, d3] }
  | _ => none }
def codecUnlikeRow : OpenClaim := { program := "ytjahkaidinahpaadoor", sum := "c7f30431a605f25ffd411d475c3d63785d7ffef7cca9189bd001304c6e6d130c", func := "jetway/jetwaylaw14.CodecUnlike", spec := "codecUnlike", named := ["internal/strconv.uint64pow10", "math/bits.deBruijn32tab", "math/bits.deBruijn64tab"], plainKeys := false, apart := false, laid := [("math/bits.deBruijn32tab", laid_math_bits_deBruijn32tab), ("math/bits.deBruijn64tab", laid_math_bits_deBruijn64tab), ("internal/strconv.uint64pow10", laid_internal_strconv_uint64pow10)] }
def CodecUnlikeSaid : Prop := codecUnlikeRow.holds Tryd.pinned (OpenSpec.ofChange codecUnlikeSpec)

/-- ITS FALSE NEIGHBOUR: 'it returns false'. Refute it at one input. -/
def codecUnlikeWrong : ChangeSpec := { name := "codecUnlike", fn := fun _ => fun
  | [d1, d2, d3] => { results := [.lit (.bool false)], args := [d1, d2, d3] }
  | _ => none }
def CodecUnlikeWrongFalsely : Prop := codecUnlikeRow.holds Tryd.pinned (OpenSpec.ofChange codecUnlikeWrong)

/-- 'jetwaylaw14.CodecRows': WHATEVER THE INPUT: true; the input reads as it did. -/
def codecRowsSpec : ChangeSpec := { name := "codecRows", fn := fun _ => fun
  | [d1, d2, d3, d4] => { results := [.lit (.bool true)], args := [d1, d2, d3, d4] }
  | _ => none }
def codecRowsRow : OpenClaim := { program := "ytjahkaidinahpaadoor", sum := "c7f30431a605f25ffd411d475c3d63785d7ffef7cca9189bd001304c6e6d130c", func := "jetway/jetwaylaw14.CodecRows", spec := "codecRows", named := ["internal/strconv.uint64pow10", "math/bits.deBruijn32tab", "math/bits.deBruijn64tab"], plainKeys := false, apart := false, laid := [("math/bits.deBruijn32tab", laid_math_bits_deBruijn32tab), ("math/bits.deBruijn64tab", laid_math_bits_deBruijn64tab), ("internal/strconv.uint64pow10", laid_internal_strconv_uint64pow10)] }
def CodecRowsSaid : Prop := codecRowsRow.holds Tryd.pinned (OpenSpec.ofChange codecRowsSpec)

/-- ITS FALSE NEIGHBOUR: 'it returns false'. Refute it at one input. -/
def codecRowsWrong : ChangeSpec := { name := "codecRows", fn := fun _ => fun
  | [d1, d2, d3, d4] => { results := [.lit (.bool false)], args := [d1, d2, d3, d4] }
  | _ => none }
def CodecRowsWrongFalsely : Prop := codecRowsRow.holds Tryd.pinned (OpenSpec.ofChange codecRowsWrong)

/-- 'jetwaylaw18.EntryParses': WHATEVER THE INPUT: true; the input reads as it did. -/
def entryParsesSpec : ChangeSpec := { name := "entryParses", fn := fun _ => fun
  | [d] => { results := [.lit (.bool true)], args := [d] }
  | _ => none }
def entryParsesRow : OpenClaim := { program := "ytjahkaidinahpaadoor", sum := "c7f30431a605f25ffd411d475c3d63785d7ffef7cca9189bd001304c6e6d130c", func := "jetway/jetwaylaw18.EntryParses", spec := "entryParses", unfollowed := true, recurses := true, named := ["jetway/date.lengths", "internal/strconv.uint64pow10", "math/bits.deBruijn32tab", "math/bits.deBruijn64tab"], plainKeys := false, apart := false, laid := [("jetway/date.lengths", laid_jetway_date_lengths), ("math/bits.deBruijn32tab", laid_math_bits_deBruijn32tab), ("math/bits.deBruijn64tab", laid_math_bits_deBruijn64tab), ("internal/strconv.uint64pow10", laid_internal_strconv_uint64pow10)] }
def EntryParsesSaid : Prop := entryParsesRow.holds Tryd.pinned (OpenSpec.ofChange entryParsesSpec)

/-- ITS FALSE NEIGHBOUR: 'it returns false'. Refute it at one input. -/
def entryParsesWrong : ChangeSpec := { name := "entryParses", fn := fun _ => fun
  | [d] => { results := [.lit (.bool false)], args := [d] }
  | _ => none }
def EntryParsesWrongFalsely : Prop := entryParsesRow.holds Tryd.pinned (OpenSpec.ofChange entryParsesWrong)

/-- 'jetwaylaw18.EntryPrints': WHATEVER THE INPUT: true; the input reads as it did. -/
def entryPrintsSpec : ChangeSpec := { name := "entryPrints", fn := fun _ => fun
  | [d] => { results := [.lit (.bool true)], args := [d] }
  | _ => none }
def entryPrintsRow : OpenClaim := { program := "ytjahkaidinahpaadoor", sum := "c7f30431a605f25ffd411d475c3d63785d7ffef7cca9189bd001304c6e6d130c", func := "jetway/jetwaylaw18.EntryPrints", spec := "entryPrints", unfollowed := true, recurses := true, named := ["jetway/date.lengths", "internal/strconv.uint64pow10", "math/bits.deBruijn32tab", "math/bits.deBruijn64tab"], plainKeys := false, apart := false, laid := [("jetway/date.lengths", laid_jetway_date_lengths), ("math/bits.deBruijn32tab", laid_math_bits_deBruijn32tab), ("math/bits.deBruijn64tab", laid_math_bits_deBruijn64tab), ("internal/strconv.uint64pow10", laid_internal_strconv_uint64pow10)] }
def EntryPrintsSaid : Prop := entryPrintsRow.holds Tryd.pinned (OpenSpec.ofChange entryPrintsSpec)

/-- ITS FALSE NEIGHBOUR: 'it returns false'. Refute it at one input. -/
def entryPrintsWrong : ChangeSpec := { name := "entryPrints", fn := fun _ => fun
  | [d] => { results := [.lit (.bool false)], args := [d] }
  | _ => none }
def EntryPrintsWrongFalsely : Prop := entryPrintsRow.holds Tryd.pinned (OpenSpec.ofChange entryPrintsWrong)

/-- 'jetwaylaw18.EntryBack': WHATEVER THE INPUT: true; the input reads as it did. -/
def entryBackSpec : ChangeSpec := { name := "entryBack", fn := fun _ => fun
  | [d1, d2] => { results := [.lit (.bool true)], args := [d1, d2] }
  | _ => none }
def entryBackRow : OpenClaim := { program := "ytjahkaidinahpaadoor", sum := "c7f30431a605f25ffd411d475c3d63785d7ffef7cca9189bd001304c6e6d130c", func := "jetway/jetwaylaw18.EntryBack", spec := "entryBack", unfollowed := true, recurses := true, named := ["jetway/date.lengths", "internal/strconv.uint64pow10", "math/bits.deBruijn32tab", "math/bits.deBruijn64tab"], plainKeys := false, apart := false, laid := [("jetway/date.lengths", laid_jetway_date_lengths), ("math/bits.deBruijn32tab", laid_math_bits_deBruijn32tab), ("math/bits.deBruijn64tab", laid_math_bits_deBruijn64tab), ("internal/strconv.uint64pow10", laid_internal_strconv_uint64pow10)] }
def EntryBackSaid : Prop := entryBackRow.holds Tryd.pinned (OpenSpec.ofChange entryBackSpec)

/-- ITS FALSE NEIGHBOUR: 'it returns false'. Refute it at one input. -/
def entryBackWrong : ChangeSpec := { name := "entryBack", fn := fun _ => fun
  | [d1, d2] => { results := [.lit (.bool false)], args := [d1, d2] }
  | _ => none }
def EntryBackWrongFalsely : Prop := entryBackRow.holds Tryd.pinned (OpenSpec.ofChange entryBackWrong)

/-- 'jetwaylaw18.EntryFaults': WHATEVER THE INPUT: true; the input reads as it did. -/
def entryFaultsSpec : ChangeSpec := { name := "entryFaults", fn := fun _ => fun
  | [d] => { results := [.lit (.bool true)], args := [d] }
  | _ => none }
def entryFaultsRow : OpenClaim := { program := "ytjahkaidinahpaadoor", sum := "c7f30431a605f25ffd411d475c3d63785d7ffef7cca9189bd001304c6e6d130c", func := "jetway/jetwaylaw18.EntryFaults", spec := "entryFaults", unfollowed := true, recurses := true, named := ["jetway/date.lengths", "internal/strconv.uint64pow10", "math/bits.deBruijn32tab", "math/bits.deBruijn64tab"], plainKeys := false, apart := false, laid := [("jetway/date.lengths", laid_jetway_date_lengths), ("math/bits.deBruijn32tab", laid_math_bits_deBruijn32tab), ("math/bits.deBruijn64tab", laid_math_bits_deBruijn64tab), ("internal/strconv.uint64pow10", laid_internal_strconv_uint64pow10)] }
def EntryFaultsSaid : Prop := entryFaultsRow.holds Tryd.pinned (OpenSpec.ofChange entryFaultsSpec)

/-- ITS FALSE NEIGHBOUR: 'it returns false'. Refute it at one input. -/
def entryFaultsWrong : ChangeSpec := { name := "entryFaults", fn := fun _ => fun
  | [d] => { results := [.lit (.bool false)], args := [d] }
  | _ => none }
def EntryFaultsWrongFalsely : Prop := entryFaultsRow.holds Tryd.pinned (OpenSpec.ofChange entryFaultsWrong)

/-- 'jetwaylaw18.EntryMore': WHATEVER THE INPUT: true; the input reads as it did. -/
def entryMoreSpec : ChangeSpec := { name := "entryMore", fn := fun _ => fun
  | [d1, d2] => { results := [.lit (.bool true)], args := [d1, d2] }
  | _ => none }
def entryMoreRow : OpenClaim := { program := "ytjahkaidinahpaadoor", sum := "c7f30431a605f25ffd411d475c3d63785d7ffef7cca9189bd001304c6e6d130c", func := "jetway/jetwaylaw18.EntryMore", spec := "entryMore", unfollowed := true, recurses := true, named := ["jetway/date.lengths", "internal/strconv.uint64pow10", "math/bits.deBruijn32tab", "math/bits.deBruijn64tab"], plainKeys := false, apart := false, laid := [("jetway/date.lengths", laid_jetway_date_lengths), ("math/bits.deBruijn32tab", laid_math_bits_deBruijn32tab), ("math/bits.deBruijn64tab", laid_math_bits_deBruijn64tab), ("internal/strconv.uint64pow10", laid_internal_strconv_uint64pow10)] }
def EntryMoreSaid : Prop := entryMoreRow.holds Tryd.pinned (OpenSpec.ofChange entryMoreSpec)

/-- ITS FALSE NEIGHBOUR: 'it returns false'. Refute it at one input. -/
def entryMoreWrong : ChangeSpec := { name := "entryMore", fn := fun _ => fun
  | [d1, d2] => { results := [.lit (.bool false)], args := [d1, d2] }
  | _ => none }
def EntryMoreWrongFalsely : Prop := entryMoreRow.holds Tryd.pinned (OpenSpec.ofChange entryMoreWrong)

/-- 'jetwaylaw14.CodecLegs': WHATEVER THE INPUT: true; the input reads as it did. -/
def codecLegsSpec : ChangeSpec := { name := "codecLegs", fn := fun _ => fun
  | [d1, d2] => { results := [.lit (.bool true)], args := [d1, d2] }
  | _ => none }
def codecLegsRow : OpenClaim := { program := "ytjahkaidinahpaadoor", sum := "c7f30431a605f25ffd411d475c3d63785d7ffef7cca9189bd001304c6e6d130c", func := "jetway/jetwaylaw14.CodecLegs", spec := "codecLegs", named := ["internal/strconv.uint64pow10", "math/bits.deBruijn32tab", "math/bits.deBruijn64tab"], plainKeys := false, apart := false, laid := [("math/bits.deBruijn32tab", laid_math_bits_deBruijn32tab), ("math/bits.deBruijn64tab", laid_math_bits_deBruijn64tab), ("internal/strconv.uint64pow10", laid_internal_strconv_uint64pow10)] }
def CodecLegsSaid : Prop := codecLegsRow.holds Tryd.pinned (OpenSpec.ofChange codecLegsSpec)

/-- ITS FALSE NEIGHBOUR: 'it returns false'. Refute it at one input. -/
def codecLegsWrong : ChangeSpec := { name := "codecLegs", fn := fun _ => fun
  | [d1, d2] => { results := [.lit (.bool false)], args := [d1, d2] }
  | _ => none }
def CodecLegsWrongFalsely : Prop := codecLegsRow.holds Tryd.pinned (OpenSpec.ofChange codecLegsWrong)

/-- 'jetwaylaw14.CodecBack': WHATEVER THE INPUT: true; the input reads as it did. -/
def codecBackSpec : ChangeSpec := { name := "codecBack", fn := fun _ => fun
  | [d1, d2, d3, d4] => { results := [.lit (.bool true)], args := [d1, d2, d3, d4] }
  | _ => none }
def codecBackRow : OpenClaim := { program := "ytjahkaidinahpaadoor", sum := "c7f30431a605f25ffd411d475c3d63785d7ffef7cca9189bd001304c6e6d130c", func := "jetway/jetwaylaw14.CodecBack", spec := "codecBack", named := ["internal/strconv.uint64pow10", "math/bits.deBruijn32tab", "math/bits.deBruijn64tab"], plainKeys := false, apart := false, laid := [("math/bits.deBruijn32tab", laid_math_bits_deBruijn32tab), ("math/bits.deBruijn64tab", laid_math_bits_deBruijn64tab), ("internal/strconv.uint64pow10", laid_internal_strconv_uint64pow10)] }
def CodecBackSaid : Prop := codecBackRow.holds Tryd.pinned (OpenSpec.ofChange codecBackSpec)

/-- ITS FALSE NEIGHBOUR: 'it returns false'. Refute it at one input. -/
def codecBackWrong : ChangeSpec := { name := "codecBack", fn := fun _ => fun
  | [d1, d2, d3, d4] => { results := [.lit (.bool false)], args := [d1, d2, d3, d4] }
  | _ => none }
def CodecBackWrongFalsely : Prop := codecBackRow.holds Tryd.pinned (OpenSpec.ofChange codecBackWrong)

/-- 'jetwaylaw14.CodecOnly': WHATEVER THE INPUT: true; the input reads as it did. -/
def codecOnlySpec : ChangeSpec := { name := "codecOnly", fn := fun _ => fun
  | [d] => { results := [.lit (.bool true)], args := [d] }
  | _ => none }
def codecOnlyRow : OpenClaim := { program := "ytjahkaidinahpaadoor", sum := "c7f30431a605f25ffd411d475c3d63785d7ffef7cca9189bd001304c6e6d130c", func := "jetway/jetwaylaw14.CodecOnly", spec := "codecOnly", named := ["internal/strconv.uint64pow10", "math/bits.deBruijn32tab", "math/bits.deBruijn64tab"], plainKeys := false, apart := false, laid := [("math/bits.deBruijn32tab", laid_math_bits_deBruijn32tab), ("math/bits.deBruijn64tab", laid_math_bits_deBruijn64tab), ("internal/strconv.uint64pow10", laid_internal_strconv_uint64pow10)] }
def CodecOnlySaid : Prop := codecOnlyRow.holds Tryd.pinned (OpenSpec.ofChange codecOnlySpec)

/-- ITS FALSE NEIGHBOUR: 'it returns false'. Refute it at one input. -/
def codecOnlyWrong : ChangeSpec := { name := "codecOnly", fn := fun _ => fun
  | [d] => { results := [.lit (.bool false)], args := [d] }
  | _ => none }
def CodecOnlyWrongFalsely : Prop := codecOnlyRow.holds Tryd.pinned (OpenSpec.ofChange codecOnlyWrong)

/- THE SECOND FORM. 'bulk': how many values and letters a reading holds, each counted each time it is reached (what is shared counts as often as it is met; a slice's spare places count too). A statement '..UptoSaid' is the law's where the arguments, and the package variables that the reading takes, are together of bulk at most 1048576: NARROWER than '..Said'. Prove '..Said' where nothing that the law and all that it calls make is longer than what came in: it says more and counts as full. Else prove '..UptoSaid'. A law counts once. -/
mutual
def uptoBulk {H : Type} : DataW H → Nat
  | .lit (.string bytes) => bytes.length + 1
  | .lit _ => 1
  | .nil => 1
  | .ptr d => uptoBulk d + 1
  | .slice elems spare => uptoBulkAll elems + uptoBulkAll spare + 1
  | .agg parts => uptoBulkAll parts + 1
  | .iface _ d => uptoBulk d + 1
  | .map entries => uptoBulkEntries entries + 1
  | .held _ => 1
def uptoBulkAll {H : Type} : List (DataW H) → Nat
  | [] => 0
  | d :: r => uptoBulk d + uptoBulkAll r
def uptoBulkEntries {H : Type} : List (Lit × DataW H) → Nat
  | [] => 0
  | x :: r => uptoBulkEntry x + uptoBulkEntries r
def uptoBulkEntry {H : Type} : Lit × DataW H → Nat
  | (.string bytes, d) => bytes.length + uptoBulk d + 1
  | (_, d) => uptoBulk d + 1
 end
def uptoSmall : (H : Type) → List (DataW H) → Bool := fun _ ds => decide (uptoBulkAll ds ≤ 1048576)
def OpenSpec.upto (s : _root_.Go.ChangeSpec) : _root_.Go.OpenSpec := { _root_.Go.OpenSpec.ofChange s with cond := some uptoSmall }

/-- 'jetwaylaw14.CodecUnlike', WHERE WHAT IT READS IS OF BULK AT MOST 1048576: true; the input reads as it did. -/
def codecUnlikeUptoRow : OpenClaim := { program := "ytjahkaidinahpaadoor", sum := "c7f30431a605f25ffd411d475c3d63785d7ffef7cca9189bd001304c6e6d130c", func := "jetway/jetwaylaw14.CodecUnlike", spec := "codecUnlike", named := ["internal/strconv.uint64pow10", "math/bits.deBruijn32tab", "math/bits.deBruijn64tab"], plainKeys := false, apart := false, laid := [("math/bits.deBruijn32tab", laid_math_bits_deBruijn32tab), ("math/bits.deBruijn64tab", laid_math_bits_deBruijn64tab), ("internal/strconv.uint64pow10", laid_internal_strconv_uint64pow10)], narrowed := true }
def CodecUnlikeUptoSaid : Prop := codecUnlikeUptoRow.holds Tryd.pinned (OpenSpec.upto codecUnlikeSpec)

/-- 'jetwaylaw14.CodecRows', WHERE WHAT IT READS IS OF BULK AT MOST 1048576: true; the input reads as it did. -/
def codecRowsUptoRow : OpenClaim := { program := "ytjahkaidinahpaadoor", sum := "c7f30431a605f25ffd411d475c3d63785d7ffef7cca9189bd001304c6e6d130c", func := "jetway/jetwaylaw14.CodecRows", spec := "codecRows", named := ["internal/strconv.uint64pow10", "math/bits.deBruijn32tab", "math/bits.deBruijn64tab"], plainKeys := false, apart := false, laid := [("math/bits.deBruijn32tab", laid_math_bits_deBruijn32tab), ("math/bits.deBruijn64tab", laid_math_bits_deBruijn64tab), ("internal/strconv.uint64pow10", laid_internal_strconv_uint64pow10)], narrowed := true }
def CodecRowsUptoSaid : Prop := codecRowsUptoRow.holds Tryd.pinned (OpenSpec.upto codecRowsSpec)

/-- 'jetwaylaw18.EntryParses', WHERE WHAT IT READS IS OF BULK AT MOST 1048576: true; the input reads as it did. -/
def entryParsesUptoRow : OpenClaim := { program := "ytjahkaidinahpaadoor", sum := "c7f30431a605f25ffd411d475c3d63785d7ffef7cca9189bd001304c6e6d130c", func := "jetway/jetwaylaw18.EntryParses", spec := "entryParses", unfollowed := true, recurses := true, named := ["jetway/date.lengths", "internal/strconv.uint64pow10", "math/bits.deBruijn32tab", "math/bits.deBruijn64tab"], plainKeys := false, apart := false, laid := [("jetway/date.lengths", laid_jetway_date_lengths), ("math/bits.deBruijn32tab", laid_math_bits_deBruijn32tab), ("math/bits.deBruijn64tab", laid_math_bits_deBruijn64tab), ("internal/strconv.uint64pow10", laid_internal_strconv_uint64pow10)], narrowed := true }
def EntryParsesUptoSaid : Prop := entryParsesUptoRow.holds Tryd.pinned (OpenSpec.upto entryParsesSpec)

/-- 'jetwaylaw18.EntryPrints', WHERE WHAT IT READS IS OF BULK AT MOST 1048576: true; the input reads as it did. -/
def entryPrintsUptoRow : OpenClaim := { program := "ytjahkaidinahpaadoor", sum := "c7f30431a605f25ffd411d475c3d63785d7ffef7cca9189bd001304c6e6d130c", func := "jetway/jetwaylaw18.EntryPrints", spec := "entryPrints", unfollowed := true, recurses := true, named := ["jetway/date.lengths", "internal/strconv.uint64pow10", "math/bits.deBruijn32tab", "math/bits.deBruijn64tab"], plainKeys := false, apart := false, laid := [("jetway/date.lengths", laid_jetway_date_lengths), ("math/bits.deBruijn32tab", laid_math_bits_deBruijn32tab), ("math/bits.deBruijn64tab", laid_math_bits_deBruijn64tab), ("internal/strconv.uint64pow10", laid_internal_strconv_uint64pow10)], narrowed := true }
def EntryPrintsUptoSaid : Prop := entryPrintsUptoRow.holds Tryd.pinned (OpenSpec.upto entryPrintsSpec)

/-- 'jetwaylaw18.EntryBack', WHERE WHAT IT READS IS OF BULK AT MOST 1048576: true; the input reads as it did. -/
def entryBackUptoRow : OpenClaim := { program := "ytjahkaidinahpaadoor", sum := "c7f30431a605f25ffd411d475c3d63785d7ffef7cca9189bd001304c6e6d130c", func := "jetway/jetwaylaw18.EntryBack", spec := "entryBack", unfollowed := true, recurses := true, named := ["jetway/date.lengths", "internal/strconv.uint64pow10", "math/bits.deBruijn32tab", "math/bits.deBruijn64tab"], plainKeys := false, apart := false, laid := [("jetway/date.lengths", laid_jetway_date_lengths), ("math/bits.deBruijn32tab", laid_math_bits_deBruijn32tab), ("math/bits.deBruijn64tab", laid_math_bits_deBruijn64tab), ("internal/strconv.uint64pow10", laid_internal_strconv_uint64pow10)], narrowed := true }
def EntryBackUptoSaid : Prop := entryBackUptoRow.holds Tryd.pinned (OpenSpec.upto entryBackSpec)

/-- 'jetwaylaw18.EntryFaults', WHERE WHAT IT READS IS OF BULK AT MOST 1048576: true; the input reads as it did. -/
def entryFaultsUptoRow : OpenClaim := { program := "ytjahkaidinahpaadoor", sum := "c7f30431a605f25ffd411d475c3d63785d7ffef7cca9189bd001304c6e6d130c", func := "jetway/jetwaylaw18.EntryFaults", spec := "entryFaults", unfollowed := true, recurses := true, named := ["jetway/date.lengths", "internal/strconv.uint64pow10", "math/bits.deBruijn32tab", "math/bits.deBruijn64tab"], plainKeys := false, apart := false, laid := [("jetway/date.lengths", laid_jetway_date_lengths), ("math/bits.deBruijn32tab", laid_math_bits_deBruijn32tab), ("math/bits.deBruijn64tab", laid_math_bits_deBruijn64tab), ("internal/strconv.uint64pow10", laid_internal_strconv_uint64pow10)], narrowed := true }
def EntryFaultsUptoSaid : Prop := entryFaultsUptoRow.holds Tryd.pinned (OpenSpec.upto entryFaultsSpec)

/-- 'jetwaylaw18.EntryMore', WHERE WHAT IT READS IS OF BULK AT MOST 1048576: true; the input reads as it did. -/
def entryMoreUptoRow : OpenClaim := { program := "ytjahkaidinahpaadoor", sum := "c7f30431a605f25ffd411d475c3d63785d7ffef7cca9189bd001304c6e6d130c", func := "jetway/jetwaylaw18.EntryMore", spec := "entryMore", unfollowed := true, recurses := true, named := ["jetway/date.lengths", "internal/strconv.uint64pow10", "math/bits.deBruijn32tab", "math/bits.deBruijn64tab"], plainKeys := false, apart := false, laid := [("jetway/date.lengths", laid_jetway_date_lengths), ("math/bits.deBruijn32tab", laid_math_bits_deBruijn32tab), ("math/bits.deBruijn64tab", laid_math_bits_deBruijn64tab), ("internal/strconv.uint64pow10", laid_internal_strconv_uint64pow10)], narrowed := true }
def EntryMoreUptoSaid : Prop := entryMoreUptoRow.holds Tryd.pinned (OpenSpec.upto entryMoreSpec)

/-- 'jetwaylaw14.CodecLegs', WHERE WHAT IT READS IS OF BULK AT MOST 1048576: true; the input reads as it did. -/
def codecLegsUptoRow : OpenClaim := { program := "ytjahkaidinahpaadoor", sum := "c7f30431a605f25ffd411d475c3d63785d7ffef7cca9189bd001304c6e6d130c", func := "jetway/jetwaylaw14.CodecLegs", spec := "codecLegs", named := ["internal/strconv.uint64pow10", "math/bits.deBruijn32tab", "math/bits.deBruijn64tab"], plainKeys := false, apart := false, laid := [("math/bits.deBruijn32tab", laid_math_bits_deBruijn32tab), ("math/bits.deBruijn64tab", laid_math_bits_deBruijn64tab), ("internal/strconv.uint64pow10", laid_internal_strconv_uint64pow10)], narrowed := true }
def CodecLegsUptoSaid : Prop := codecLegsUptoRow.holds Tryd.pinned (OpenSpec.upto codecLegsSpec)

/-- 'jetwaylaw14.CodecBack', WHERE WHAT IT READS IS OF BULK AT MOST 1048576: true; the input reads as it did. -/
def codecBackUptoRow : OpenClaim := { program := "ytjahkaidinahpaadoor", sum := "c7f30431a605f25ffd411d475c3d63785d7ffef7cca9189bd001304c6e6d130c", func := "jetway/jetwaylaw14.CodecBack", spec := "codecBack", named := ["internal/strconv.uint64pow10", "math/bits.deBruijn32tab", "math/bits.deBruijn64tab"], plainKeys := false, apart := false, laid := [("math/bits.deBruijn32tab", laid_math_bits_deBruijn32tab), ("math/bits.deBruijn64tab", laid_math_bits_deBruijn64tab), ("internal/strconv.uint64pow10", laid_internal_strconv_uint64pow10)], narrowed := true }
def CodecBackUptoSaid : Prop := codecBackUptoRow.holds Tryd.pinned (OpenSpec.upto codecBackSpec)

/-- 'jetwaylaw14.CodecOnly', WHERE WHAT IT READS IS OF BULK AT MOST 1048576: true; the input reads as it did. -/
def codecOnlyUptoRow : OpenClaim := { program := "ytjahkaidinahpaadoor", sum := "c7f30431a605f25ffd411d475c3d63785d7ffef7cca9189bd001304c6e6d130c", func := "jetway/jetwaylaw14.CodecOnly", spec := "codecOnly", named := ["internal/strconv.uint64pow10", "math/bits.deBruijn32tab", "math/bits.deBruijn64tab"], plainKeys := false, apart := false, laid := [("math/bits.deBruijn32tab", laid_math_bits_deBruijn32tab), ("math/bits.deBruijn64tab", laid_math_bits_deBruijn64tab), ("internal/strconv.uint64pow10", laid_internal_strconv_uint64pow10)], narrowed := true }
def CodecOnlyUptoSaid : Prop := codecOnlyUptoRow.holds Tryd.pinned (OpenSpec.upto codecOnlySpec)

end Rows
end Go.Proofs.YtjahkaidinahpaaDoor
