/-
  NARROWER THAN 'FOR EVERY INPUT', by the rows' own cells (each row's printed sentence says how): DateTexts: laid · DateReads: laid · DateBack: laid · DateRises: laid · DateMoments: laid.
  DERIVED. THE GIVEN ROWS OF THIS SEAT. 5 by the template 'for every input the law returns true; each argument reads behind the call as it read before'; 0 by the template 'total and deterministic' (their statements: YtpfgmmmeofnkoaaDoorTotals.lean).
  GIVEN WITH THE SEED: the statements are not yours to turn. If you find one false, say at which input.
  Laid BY PROGRAM, IN A SANDBOX (cutbox-rows.mjs): the forced cells as the released guide's own fill.sh prints them over the translation 1d70adef081b043b… (all of the seat's roots in one cut). By AI agents, Wed Nov 11 2026. No macro, syntax, notation, axiom, sorry.
-/
import Derived.Test.YtpfgmmmeofnkoaaDoorChecked
import GoSem.Claim
import GoSem.ClaimJoined
import GoSem.ClaimMapViews
import Derived.JoinedTies
import Derived.KernelRfl
namespace Go.Proofs.YtpfgmmmeofnkoaaDoor
/- THE CELL 'sum', in the pinned program and in every row, IS THE sha256 OF THE DUMP (.gsa) THAT YtpfgmmmeofnkoaaDoorProg.lean LOADS. Nothing in Lean hashes anything: it is a label: what it is worth is what the hold of that sum in a sandbox is worth. -/
noncomputable def Tryd.pinned : Pinned := { name := "ytpfgmmmeofnkoaadoor", sum := "1d70adef081b043b1cdeee06c7e177ecb5f2c0f407e778654c1023f0294eca48", checked := Tryd.checked }
namespace Rows
def none {H : Type} : Left H := { results := [], args := [] }

/- WHAT THE LISTED PACKAGE-LEVEL VARIABLES READ AS WHEN THE CALL BEGINS. Each datum BY PROGRAM (the guide's laid-datum.mjs) off the statement by which the dump's own 'gosem.cut.vars' lays the variable. In a bare row this is a premise. The card (YtpfgmmmeofnkoaaDoorCards.lean) ties it to the program's text. -/
def laid_jetway_date_lengths {H : Type} : DataW H := .agg [.lit (.int .i64 31), .lit (.int .i64 29), .lit (.int .i64 31), .lit (.int .i64 30), .lit (.int .i64 31), .lit (.int .i64 30), .lit (.int .i64 31), .lit (.int .i64 31), .lit (.int .i64 30), .lit (.int .i64 31), .lit (.int .i64 30), .lit (.int .i64 31)]

/-- 'jetwaylaw03.DateTexts': WHATEVER THE INPUT: true; the input reads as it did. -/
def dateTextsSpec : ChangeSpec := { name := "dateTexts", fn := fun _ => fun
  | [d] => { results := [.lit (.bool true)], args := [d] }
  | _ => none }
def dateTextsRow : OpenClaim := { program := "ytpfgmmmeofnkoaadoor", sum := "1d70adef081b043b1cdeee06c7e177ecb5f2c0f407e778654c1023f0294eca48", func := "jetway/jetwaylaw03.DateTexts", spec := "dateTexts", named := ["jetway/date.lengths"], apart := false, laid := [("jetway/date.lengths", laid_jetway_date_lengths)] }
def DateTextsSaid : Prop := dateTextsRow.holds Tryd.pinned (OpenSpec.ofChange dateTextsSpec)

/-- ITS FALSE NEIGHBOUR: 'it returns false'. Refute it at one input. -/
def dateTextsWrong : ChangeSpec := { name := "dateTexts", fn := fun _ => fun
  | [d] => { results := [.lit (.bool false)], args := [d] }
  | _ => none }
def DateTextsWrongFalsely : Prop := dateTextsRow.holds Tryd.pinned (OpenSpec.ofChange dateTextsWrong)

/-- 'jetwaylaw03.DateReads': WHATEVER THE INPUT: true; the input reads as it did. -/
def dateReadsSpec : ChangeSpec := { name := "dateReads", fn := fun _ => fun
  | [d] => { results := [.lit (.bool true)], args := [d] }
  | _ => none }
def dateReadsRow : OpenClaim := { program := "ytpfgmmmeofnkoaadoor", sum := "1d70adef081b043b1cdeee06c7e177ecb5f2c0f407e778654c1023f0294eca48", func := "jetway/jetwaylaw03.DateReads", spec := "dateReads", named := ["jetway/date.lengths"], apart := false, laid := [("jetway/date.lengths", laid_jetway_date_lengths)] }
def DateReadsSaid : Prop := dateReadsRow.holds Tryd.pinned (OpenSpec.ofChange dateReadsSpec)

/-- ITS FALSE NEIGHBOUR: 'it returns false'. Refute it at one input. -/
def dateReadsWrong : ChangeSpec := { name := "dateReads", fn := fun _ => fun
  | [d] => { results := [.lit (.bool false)], args := [d] }
  | _ => none }
def DateReadsWrongFalsely : Prop := dateReadsRow.holds Tryd.pinned (OpenSpec.ofChange dateReadsWrong)

/-- 'jetwaylaw03.DateBack': WHATEVER THE INPUT: true; the input reads as it did. -/
def dateBackSpec : ChangeSpec := { name := "dateBack", fn := fun _ => fun
  | [d1, d2] => { results := [.lit (.bool true)], args := [d1, d2] }
  | _ => none }
def dateBackRow : OpenClaim := { program := "ytpfgmmmeofnkoaadoor", sum := "1d70adef081b043b1cdeee06c7e177ecb5f2c0f407e778654c1023f0294eca48", func := "jetway/jetwaylaw03.DateBack", spec := "dateBack", named := ["jetway/date.lengths"], apart := false, laid := [("jetway/date.lengths", laid_jetway_date_lengths)] }
def DateBackSaid : Prop := dateBackRow.holds Tryd.pinned (OpenSpec.ofChange dateBackSpec)

/-- ITS FALSE NEIGHBOUR: 'it returns false'. Refute it at one input. -/
def dateBackWrong : ChangeSpec := { name := "dateBack", fn := fun _ => fun
  | [d1, d2] => { results := [.lit (.bool false)], args := [d1, d2] }
  | _ => none }
def DateBackWrongFalsely : Prop := dateBackRow.holds Tryd.pinned (OpenSpec.ofChange dateBackWrong)

/-- 'jetwaylaw03.DateRises': WHATEVER THE INPUT: true; the input reads as it did. -/
def dateRisesSpec : ChangeSpec := { name := "dateRises", fn := fun _ => fun
  | [d1, d2] => { results := [.lit (.bool true)], args := [d1, d2] }
  | _ => none }
def dateRisesRow : OpenClaim := { program := "ytpfgmmmeofnkoaadoor", sum := "1d70adef081b043b1cdeee06c7e177ecb5f2c0f407e778654c1023f0294eca48", func := "jetway/jetwaylaw03.DateRises", spec := "dateRises", named := ["jetway/date.lengths"], apart := false, laid := [("jetway/date.lengths", laid_jetway_date_lengths)] }
def DateRisesSaid : Prop := dateRisesRow.holds Tryd.pinned (OpenSpec.ofChange dateRisesSpec)

/-- ITS FALSE NEIGHBOUR: 'it returns false'. Refute it at one input. -/
def dateRisesWrong : ChangeSpec := { name := "dateRises", fn := fun _ => fun
  | [d1, d2] => { results := [.lit (.bool false)], args := [d1, d2] }
  | _ => none }
def DateRisesWrongFalsely : Prop := dateRisesRow.holds Tryd.pinned (OpenSpec.ofChange dateRisesWrong)

/-- 'jetwaylaw03.DateMoments': WHATEVER THE INPUT: true; the input reads as it did. -/
def dateMomentsSpec : ChangeSpec := { name := "dateMoments", fn := fun _ => fun
  | [d1, d2] => { results := [.lit (.bool true)], args := [d1, d2] }
  | _ => none }
def dateMomentsRow : OpenClaim := { program := "ytpfgmmmeofnkoaadoor", sum := "1d70adef081b043b1cdeee06c7e177ecb5f2c0f407e778654c1023f0294eca48", func := "jetway/jetwaylaw03.DateMoments", spec := "dateMoments", named := ["jetway/date.lengths"], apart := false, laid := [("jetway/date.lengths", laid_jetway_date_lengths)] }
def DateMomentsSaid : Prop := dateMomentsRow.holds Tryd.pinned (OpenSpec.ofChange dateMomentsSpec)

/-- ITS FALSE NEIGHBOUR: 'it returns false'. Refute it at one input. -/
def dateMomentsWrong : ChangeSpec := { name := "dateMoments", fn := fun _ => fun
  | [d1, d2] => { results := [.lit (.bool false)], args := [d1, d2] }
  | _ => none }
def DateMomentsWrongFalsely : Prop := dateMomentsRow.holds Tryd.pinned (OpenSpec.ofChange dateMomentsWrong)

/- THE SECOND FORM. 'bulk': how many values and letters a reading holds, each counted each time it is reached (what is shared counts as often as it is met; a slice's spare places count too). A statement '..UptoSaid' is the law's where the arguments, and the package variables that the reading takes, are together of bulk at most 1048576: NARROWER than '..Said'. Prove '..Said' where nothing that the law and all that it calls make is longer than what came in: it says more and counts as full. Else prove '..UptoSaid'. A law counts once. -/
mutual
def uptoBulk {H : Type} : DataW H → Nat
  | .lit (.string bytes) => bytes.length + 1
  | .lit _ => 1
  | .nil => 1
  | .ptr d => uptoBulk d + 1
  | .slice elems spare => uptoBulkAll elems + uptoBulkAll spare + 1
  | .agg parts => uptoBulkAll parts + 1
  | .iface _ d => uptoBulk d + 1
  | .map entries => uptoBulkEntries entries + 1
  | .held _ => 1
def uptoBulkAll {H : Type} : List (DataW H) → Nat
  | [] => 0
  | d :: r => uptoBulk d + uptoBulkAll r
def uptoBulkEntries {H : Type} : List (Lit × DataW H) → Nat
  | [] => 0
  | x :: r => uptoBulkEntry x + uptoBulkEntries r
def uptoBulkEntry {H : Type} : Lit × DataW H → Nat
  | (.string bytes, d) => bytes.length + uptoBulk d + 1
  | (_, d) => uptoBulk d + 1
 end
def uptoSmall : (H : Type) → List (DataW H) → Bool := fun _ ds => decide (uptoBulkAll ds ≤ 1048576)
def OpenSpec.upto (s : _root_.Go.ChangeSpec) : _root_.Go.OpenSpec := { _root_.Go.OpenSpec.ofChange s with cond := some uptoSmall }

/-- 'jetwaylaw03.DateTexts', WHERE WHAT IT READS IS OF BULK AT MOST 1048576: true; the input reads as it did. -/
def dateTextsUptoRow : OpenClaim := { program := "ytpfgmmmeofnkoaadoor", sum := "1d70adef081b043b1cdeee06c7e177ecb5f2c0f407e778654c1023f0294eca48", func := "jetway/jetwaylaw03.DateTexts", spec := "dateTexts", named := ["jetway/date.lengths"], apart := false, laid := [("jetway/date.lengths", laid_jetway_date_lengths)], narrowed := true }
def DateTextsUptoSaid : Prop := dateTextsUptoRow.holds Tryd.pinned (OpenSpec.upto dateTextsSpec)

/-- 'jetwaylaw03.DateReads', WHERE WHAT IT READS IS OF BULK AT MOST 1048576: true; the input reads as it did. -/
def dateReadsUptoRow : OpenClaim := { program := "ytpfgmmmeofnkoaadoor", sum := "1d70adef081b043b1cdeee06c7e177ecb5f2c0f407e778654c1023f0294eca48", func := "jetway/jetwaylaw03.DateReads", spec := "dateReads", named := ["jetway/date.lengths"], apart := false, laid := [("jetway/date.lengths", laid_jetway_date_lengths)], narrowed := true }
def DateReadsUptoSaid : Prop := dateReadsUptoRow.holds Tryd.pinned (OpenSpec.upto dateReadsSpec)

/-- 'jetwaylaw03.DateBack', WHERE WHAT IT READS IS OF BULK AT MOST 1048576: true; the input reads as it did. -/
def dateBackUptoRow : OpenClaim := { program := "ytpfgmmmeofnkoaadoor", sum := "1d70adef081b043b1cdeee06c7e177ecb5f2c0f407e778654c1023f0294eca48", func := "jetway/jetwaylaw03.DateBack", spec := "dateBack", named := ["jetway/date.lengths"], apart := false, laid := [("jetway/date.lengths", laid_jetway_date_lengths)], narrowed := true }
def DateBackUptoSaid : Prop := dateBackUptoRow.holds Tryd.pinned (OpenSpec.upto dateBackSpec)

/-- 'jetwaylaw03.DateRises', WHERE WHAT IT READS IS OF BULK AT MOST 1048576: true; the input reads as it did. -/
def dateRisesUptoRow : OpenClaim := { program := "ytpfgmmmeofnkoaadoor", sum := "1d70adef081b043b1cdeee06c7e177ecb5f2c0f407e778654c1023f0294eca48", func := "jetway/jetwaylaw03.DateRises", spec := "dateRises", named := ["jetway/date.lengths"], apart := false, laid := [("jetway/date.lengths", laid_jetway_date_lengths)], narrowed := true }
def DateRisesUptoSaid : Prop := dateRisesUptoRow.holds Tryd.pinned (OpenSpec.upto dateRisesSpec)

/-- 'jetwaylaw03.DateMoments', WHERE WHAT IT READS IS OF BULK AT MOST 1048576: true; the input reads as it did. -/
def dateMomentsUptoRow : OpenClaim := { program := "ytpfgmmmeofnkoaadoor", sum := "1d70adef081b043b1cdeee06c7e177ecb5f2c0f407e778654c1023f0294eca48", func := "jetway/jetwaylaw03.DateMoments", spec := "dateMoments", named := ["jetway/date.lengths"], apart := false, laid := [("jetway/date.lengths", laid_jetway_date_lengths)], narrowed := true }
def DateMomentsUptoSaid : Prop := dateMomentsUptoRow.holds Tryd.pinned (OpenSpec.upto dateMomentsSpec)

end Rows
end Go.Proofs.YtpfgmmmeofnkoaaDoor
