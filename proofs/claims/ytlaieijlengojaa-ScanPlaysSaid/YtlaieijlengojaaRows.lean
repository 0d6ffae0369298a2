/-
  No cell of these rows narrows 'for every input' (looked for: loops, veiled, ifaces, maps, wideKeys, modest, calm, conditions, laid).
  DERIVED. THE GIVEN ROWS OF THIS SEAT. 11 by the template 'for every input the law returns true; each argument reads behind the call as it read before'; 0 by the template 'total and deterministic' (their statements: YtlaieijlengojaaTotals.lean).
  GIVEN WITH THE SEED: the statements are not yours to turn. If you find one false, say at which input.
  Laid BY PROGRAM, IN A SANDBOX (cutbox-rows.mjs): the forced cells as the released guide's own fill.sh prints them over the translation 0d171c2094a34151… (all of the seat's roots in one cut). By AI agents, Wed Nov 11 2026. No macro, syntax, notation, axiom, sorry.
-/
import Derived.Test.YtlaieijlengojaaChecked
import GoSem.Claim
import GoSem.ClaimJoined
import GoSem.ClaimMapViews
import Derived.JoinedTies
import Derived.KernelRfl
namespace Go.Proofs.Ytlaieijlengojaa
/- THE CELL 'sum', in the pinned program and in every row, IS THE sha256 OF THE DUMP (.gsa) THAT YtlaieijlengojaaProg.lean LOADS. Nothing in Lean hashes anything: it is a label: what it is worth is what the hold of that sum in a sandbox is worth. -/
noncomputable def Try.pinned : Pinned := { name := "ytlaieijlengojaa", sum := "0d171c2094a34151a3988f7b2d90441dbfa4f8f35df7abb05dd86fc55fe513e3", checked := Try.checked }
namespace Rows
def none {H : Type} : Left H := { results := [], args := [] }

/-- 'jetwaylaw17.ScanRuns': WHATEVER THE INPUT: true; the input reads as it did. -/
def scanRunsSpec : ChangeSpec := { name := "scanRuns", fn := fun _ => fun
  | [d1, d2] => { results := [.lit (.bool true)], args := [d1, d2] }
  | _ => none }
def scanRunsRow : OpenClaim := { program := "ytlaieijlengojaa", sum := "0d171c2094a34151a3988f7b2d90441dbfa4f8f35df7abb05dd86fc55fe513e3", func := "jetway/jetwaylaw17.ScanRuns", spec := "scanRuns", apart := false }
def ScanRunsSaid : Prop := scanRunsRow.holds Try.pinned (OpenSpec.ofChange scanRunsSpec)

/-- ITS FALSE NEIGHBOUR: 'it returns false'. Refute it at one input. -/
def scanRunsWrong : ChangeSpec := { name := "scanRuns", fn := fun _ => fun
  | [d1, d2] => { results := [.lit (.bool false)], args := [d1, d2] }
  | _ => none }
def ScanRunsWrongFalsely : Prop := scanRunsRow.holds Try.pinned (OpenSpec.ofChange scanRunsWrong)

/-- 'jetwaylaw17.ScanNumbers': WHATEVER THE INPUT: true; the input reads as it did. -/
def scanNumbersSpec : ChangeSpec := { name := "scanNumbers", fn := fun _ => fun
  | [d1, d2, d3, d4] => { results := [.lit (.bool true)], args := [d1, d2, d3, d4] }
  | _ => none }
def scanNumbersRow : OpenClaim := { program := "ytlaieijlengojaa", sum := "0d171c2094a34151a3988f7b2d90441dbfa4f8f35df7abb05dd86fc55fe513e3", func := "jetway/jetwaylaw17.ScanNumbers", spec := "scanNumbers", apart := false }
def ScanNumbersSaid : Prop := scanNumbersRow.holds Try.pinned (OpenSpec.ofChange scanNumbersSpec)

/-- ITS FALSE NEIGHBOUR: 'it returns false'. Refute it at one input. -/
def scanNumbersWrong : ChangeSpec := { name := "scanNumbers", fn := fun _ => fun
  | [d1, d2, d3, d4] => { results := [.lit (.bool false)], args := [d1, d2, d3, d4] }
  | _ => none }
def ScanNumbersWrongFalsely : Prop := scanNumbersRow.holds Try.pinned (OpenSpec.ofChange scanNumbersWrong)

/-- 'jetwaylaw07.LocatorTexts': WHATEVER THE INPUT: true; the input reads as it did. -/
def locatorTextsSpec : ChangeSpec := { name := "locatorTexts", fn := fun _ => fun
  | [d] => { results := [.lit (.bool true)], args := [d] }
  | _ => none }
def locatorTextsRow : OpenClaim := { program := "ytlaieijlengojaa", sum := "0d171c2094a34151a3988f7b2d90441dbfa4f8f35df7abb05dd86fc55fe513e3", func := "jetway/jetwaylaw07.LocatorTexts", spec := "locatorTexts", apart := false }
def LocatorTextsSaid : Prop := locatorTextsRow.holds Try.pinned (OpenSpec.ofChange locatorTextsSpec)

/-- ITS FALSE NEIGHBOUR: 'it returns false'. Refute it at one input. -/
def locatorTextsWrong : ChangeSpec := { name := "locatorTexts", fn := fun _ => fun
  | [d] => { results := [.lit (.bool false)], args := [d] }
  | _ => none }
def LocatorTextsWrongFalsely : Prop := locatorTextsRow.holds Try.pinned (OpenSpec.ofChange locatorTextsWrong)

/-- 'jetwaylaw07.LocatorReads': WHATEVER THE INPUT: true; the input reads as it did. -/
def locatorReadsSpec : ChangeSpec := { name := "locatorReads", fn := fun _ => fun
  | [d] => { results := [.lit (.bool true)], args := [d] }
  | _ => none }
def locatorReadsRow : OpenClaim := { program := "ytlaieijlengojaa", sum := "0d171c2094a34151a3988f7b2d90441dbfa4f8f35df7abb05dd86fc55fe513e3", func := "jetway/jetwaylaw07.LocatorReads", spec := "locatorReads", apart := false }
def LocatorReadsSaid : Prop := locatorReadsRow.holds Try.pinned (OpenSpec.ofChange locatorReadsSpec)

/-- ITS FALSE NEIGHBOUR: 'it returns false'. Refute it at one input. -/
def locatorReadsWrong : ChangeSpec := { name := "locatorReads", fn := fun _ => fun
  | [d] => { results := [.lit (.bool false)], args := [d] }
  | _ => none }
def LocatorReadsWrongFalsely : Prop := locatorReadsRow.holds Try.pinned (OpenSpec.ofChange locatorReadsWrong)

/-- 'jetwaylaw07.LocatorUnlike': WHATEVER THE INPUT: true; the input reads as it did. -/
def locatorUnlikeSpec : ChangeSpec := { name := "locatorUnlike", fn := fun _ => fun
  | [d1, d2] => { results := [.lit (.bool true)], args := [d1, d2] }
  | _ => none }
def locatorUnlikeRow : OpenClaim := { program := "ytlaieijlengojaa", sum := "0d171c2094a34151a3988f7b2d90441dbfa4f8f35df7abb05dd86fc55fe513e3", func := "jetway/jetwaylaw07.LocatorUnlike", spec := "locatorUnlike", apart := false }
def LocatorUnlikeSaid : Prop := locatorUnlikeRow.holds Try.pinned (OpenSpec.ofChange locatorUnlikeSpec)

/-- ITS FALSE NEIGHBOUR: 'it returns false'. Refute it at one input. -/
def locatorUnlikeWrong : ChangeSpec := { name := "locatorUnlike", fn := fun _ => fun
  | [d1, d2] => { results := [.lit (.bool false)], args := [d1, d2] }
  | _ => none }
def LocatorUnlikeWrongFalsely : Prop := locatorUnlikeRow.holds Try.pinned (OpenSpec.ofChange locatorUnlikeWrong)

/-- 'jetwaylaw07.LocatorSums': WHATEVER THE INPUT: true; the input reads as it did. -/
def locatorSumsSpec : ChangeSpec := { name := "locatorSums", fn := fun _ => fun
  | [d1, d2, d3] => { results := [.lit (.bool true)], args := [d1, d2, d3] }
  | _ => none }
def locatorSumsRow : OpenClaim := { program := "ytlaieijlengojaa", sum := "0d171c2094a34151a3988f7b2d90441dbfa4f8f35df7abb05dd86fc55fe513e3", func := "jetway/jetwaylaw07.LocatorSums", spec := "locatorSums", apart := false }
def LocatorSumsSaid : Prop := locatorSumsRow.holds Try.pinned (OpenSpec.ofChange locatorSumsSpec)

/-- ITS FALSE NEIGHBOUR: 'it returns false'. Refute it at one input. -/
def locatorSumsWrong : ChangeSpec := { name := "locatorSums", fn := fun _ => fun
  | [d1, d2, d3] => { results := [.lit (.bool false)], args := [d1, d2, d3] }
  | _ => none }
def LocatorSumsWrongFalsely : Prop := locatorSumsRow.holds Try.pinned (OpenSpec.ofChange locatorSumsWrong)

/-- 'jetwaylaw17.ScanPlays': WHATEVER THE INPUT: true; the input reads as it did. -/
def scanPlaysSpec : ChangeSpec := { name := "scanPlays", fn := fun _ => fun
  | [d1, d2, d3] => { results := [.lit (.bool true)], args := [d1, d2, d3] }
  | _ => none }
def scanPlaysRow : OpenClaim := { program := "ytlaieijlengojaa", sum := "0d171c2094a34151a3988f7b2d90441dbfa4f8f35df7abb05dd86fc55fe513e3", func := "jetway/jetwaylaw17.ScanPlays", spec := "scanPlays", apart := false }
def ScanPlaysSaid : Prop := scanPlaysRow.holds Try.pinned (OpenSpec.ofChange scanPlaysSpec)

/-- ITS FALSE NEIGHBOUR: 'it returns false'. Refute it at one input. -/
def scanPlaysWrong : ChangeSpec := { name := "scanPlays", fn := fun _ => fun
  | [d1, d2, d3] => { results := [.lit (.bool false)], args := [d1, d2, d3] }
  | _ => none }
def ScanPlaysWrongFalsely : Prop := scanPlaysRow.holds Try.pinned (OpenSpec.ofChange scanPlaysWrong)

/-- 'jetwaylaw02.CodeTells': WHATEVER THE INPUT: true; the input reads as it did. -/
def codeTellsSpec : ChangeSpec := { name := "codeTells", fn := fun _ => fun
  | [d] => { results := [.lit (.bool true)], args := [d] }
  | _ => none }
def codeTellsRow : OpenClaim := { program := "ytlaieijlengojaa", sum := "0d171c2094a34151a3988f7b2d90441dbfa4f8f35df7abb05dd86fc55fe513e3", func := "jetway/jetwaylaw02.CodeTells", spec := "codeTells", apart := false }
def CodeTellsSaid : Prop := codeTellsRow.holds Try.pinned (OpenSpec.ofChange codeTellsSpec)

/-- ITS FALSE NEIGHBOUR: 'it returns false'. Refute it at one input. -/
def codeTellsWrong : ChangeSpec := { name := "codeTells", fn := fun _ => fun
  | [d] => { results := [.lit (.bool false)], args := [d] }
  | _ => none }
def CodeTellsWrongFalsely : Prop := codeTellsRow.holds Try.pinned (OpenSpec.ofChange codeTellsWrong)

/-- 'jetwaylaw02.CodeUpper': WHATEVER THE INPUT: true; the input reads as it did. -/
def codeUpperSpec : ChangeSpec := { name := "codeUpper", fn := fun _ => fun
  | [d1, d2] => { results := [.lit (.bool true)], args := [d1, d2] }
  | _ => none }
def codeUpperRow : OpenClaim := { program := "ytlaieijlengojaa", sum := "0d171c2094a34151a3988f7b2d90441dbfa4f8f35df7abb05dd86fc55fe513e3", func := "jetway/jetwaylaw02.CodeUpper", spec := "codeUpper", apart := false }
def CodeUpperSaid : Prop := codeUpperRow.holds Try.pinned (OpenSpec.ofChange codeUpperSpec)

/-- ITS FALSE NEIGHBOUR: 'it returns false'. Refute it at one input. -/
def codeUpperWrong : ChangeSpec := { name := "codeUpper", fn := fun _ => fun
  | [d1, d2] => { results := [.lit (.bool false)], args := [d1, d2] }
  | _ => none }
def CodeUpperWrongFalsely : Prop := codeUpperRow.holds Try.pinned (OpenSpec.ofChange codeUpperWrong)

/-- 'jetwaylaw02.CodeFree': WHATEVER THE INPUT: true; the input reads as it did. -/
def codeFreeSpec : ChangeSpec := { name := "codeFree", fn := fun _ => fun
  | [d] => { results := [.lit (.bool true)], args := [d] }
  | _ => none }
def codeFreeRow : OpenClaim := { program := "ytlaieijlengojaa", sum := "0d171c2094a34151a3988f7b2d90441dbfa4f8f35df7abb05dd86fc55fe513e3", func := "jetway/jetwaylaw02.CodeFree", spec := "codeFree", apart := false }
def CodeFreeSaid : Prop := codeFreeRow.holds Try.pinned (OpenSpec.ofChange codeFreeSpec)

/-- ITS FALSE NEIGHBOUR: 'it returns false'. Refute it at one input. -/
def codeFreeWrong : ChangeSpec := { name := "codeFree", fn := fun _ => fun
  | [d] => { results := [.lit (.bool false)], args := [d] }
  | _ => none }
def CodeFreeWrongFalsely : Prop := codeFreeRow.holds Try.pinned (OpenSpec.ofChange codeFreeWrong)

/-- 'jetwaylaw02.CodeJoins': WHATEVER THE INPUT: true; the input reads as it did. -/
def codeJoinsSpec : ChangeSpec := { name := "codeJoins", fn := fun _ => fun
  | [d1, d2, d3] => { results := [.lit (.bool true)], args := [d1, d2, d3] }
  | _ => none }
def codeJoinsRow : OpenClaim := { program := "ytlaieijlengojaa", sum := "0d171c2094a34151a3988f7b2d90441dbfa4f8f35df7abb05dd86fc55fe513e3", func := "jetway/jetwaylaw02.CodeJoins", spec := "codeJoins", apart := false }
def CodeJoinsSaid : Prop := codeJoinsRow.holds Try.pinned (OpenSpec.ofChange codeJoinsSpec)

/-- ITS FALSE NEIGHBOUR: 'it returns false'. Refute it at one input. -/
def codeJoinsWrong : ChangeSpec := { name := "codeJoins", fn := fun _ => fun
  | [d1, d2, d3] => { results := [.lit (.bool false)], args := [d1, d2, d3] }
  | _ => none }
def CodeJoinsWrongFalsely : Prop := codeJoinsRow.holds Try.pinned (OpenSpec.ofChange codeJoinsWrong)

/- THE SECOND FORM. 'bulk': how many values and letters a reading holds, each counted each time it is reached (what is shared counts as often as it is met; a slice's spare places count too). A statement '..UptoSaid' is the law's where the arguments, and the package variables that the reading takes, are together of bulk at most 1048576: NARROWER than '..Said'. Prove '..Said' where nothing that the law and all that it calls make is longer than what came in: it says more and counts as full. Else prove '..UptoSaid'. A law counts once. -/
mutual
def uptoBulk {H : Type} : DataW H → Nat
  | .lit (.string bytes) => bytes.length + 1
  | .lit _ => 1
  | .nil => 1
  | .ptr d => uptoBulk d + 1
  | .slice elems spare => uptoBulkAll elems + uptoBulkAll spare + 1
  | .agg parts => uptoBulkAll parts + 1
  | .iface _ d => uptoBulk d + 1
  | .map entries => uptoBulkEntries entries + 1
  | .held _ => 1
def uptoBulkAll {H : Type} : List (DataW H) → Nat
  | [] => 0
  | d :: r => uptoBulk d + uptoBulkAll r
def uptoBulkEntries {H : Type} : List (Lit × DataW H) → Nat
  | [] => 0
  | x :: r => uptoBulkEntry x + uptoBulkEntries r
def uptoBulkEntry {H : Type} : Lit × DataW H → Nat
  | (.string bytes, d) => bytes.length + uptoBulk d + 1
  | (_, d) => uptoBulk d + 1
 end
def uptoSmall : (H : Type) → List (DataW H) → Bool := fun _ ds => decide (uptoBulkAll ds ≤ 1048576)
def OpenSpec.upto (s : _root_.Go.ChangeSpec) : _root_.Go.OpenSpec := { _root_.Go.OpenSpec.ofChange s with cond := some uptoSmall }

/-- 'jetwaylaw17.ScanRuns', WHERE WHAT IT READS IS OF BULK AT MOST 1048576: true; the input reads as it did. -/
def scanRunsUptoRow : OpenClaim := { program := "ytlaieijlengojaa", sum := "0d171c2094a34151a3988f7b2d90441dbfa4f8f35df7abb05dd86fc55fe513e3", func := "jetway/jetwaylaw17.ScanRuns", spec := "scanRuns", apart := false, narrowed := true }
def ScanRunsUptoSaid : Prop := scanRunsUptoRow.holds Try.pinned (OpenSpec.upto scanRunsSpec)

/-- 'jetwaylaw17.ScanNumbers', WHERE WHAT IT READS IS OF BULK AT MOST 1048576: true; the input reads as it did. -/
def scanNumbersUptoRow : OpenClaim := { program := "ytlaieijlengojaa", sum := "0d171c2094a34151a3988f7b2d90441dbfa4f8f35df7abb05dd86fc55fe513e3", func := "jetway/jetwaylaw17.ScanNumbers", spec := "scanNumbers", apart := false, narrowed := true }
def ScanNumbersUptoSaid : Prop := scanNumbersUptoRow.holds Try.pinned (OpenSpec.upto scanNumbersSpec)

/-- 'jetwaylaw07.LocatorTexts', WHERE WHAT IT READS IS OF BULK AT MOST 1048576: true; the input reads as it did. -/
def locatorTextsUptoRow : OpenClaim := { program := "ytlaieijlengojaa", sum := "0d171c2094a34151a3988f7b2d90441dbfa4f8f35df7abb05dd86fc55fe513e3", func := "jetway/jetwaylaw07.LocatorTexts", spec := "locatorTexts", apart := false, narrowed := true }
def LocatorTextsUptoSaid : Prop := locatorTextsUptoRow.holds Try.pinned (OpenSpec.upto locatorTextsSpec)

/-- 'jetwaylaw07.LocatorReads', WHERE WHAT IT READS IS OF BULK AT MOST 1048576: true; the input reads as it did. -/
def locatorReadsUptoRow : OpenClaim := { program := "ytlaieijlengojaa", sum := "0d171c2094a34151a3988f7b2d90441dbfa4f8f35df7abb05dd86fc55fe513e3", func := "jetway/jetwaylaw07.LocatorReads", spec := "locatorReads", apart := false, narrowed := true }
def LocatorReadsUptoSaid : Prop := locatorReadsUptoRow.holds Try.pinned (OpenSpec.upto locatorReadsSpec)

/-- 'jetwaylaw07.LocatorUnlike', WHERE WHAT IT READS IS OF BULK AT MOST 1048576: true; the input reads as it did. -/
def locatorUnlikeUptoRow : OpenClaim := { program := "ytlaieijlengojaa", sum := "0d171c2094a34151a3988f7b2d90441dbfa4f8f35df7abb05dd86fc55fe513e3", func := "jetway/jetwaylaw07.LocatorUnlike", spec := "locatorUnlike", apart := false, narrowed := true }
def LocatorUnlikeUptoSaid : Prop := locatorUnlikeUptoRow.holds Try.pinned (OpenSpec.upto locatorUnlikeSpec)

/-- 'jetwaylaw07.LocatorSums', WHERE WHAT IT READS IS OF BULK AT MOST 1048576: true; the input reads as it did. -/
def locatorSumsUptoRow : OpenClaim := { program := "ytlaieijlengojaa", sum := "0d171c2094a34151a3988f7b2d90441dbfa4f8f35df7abb05dd86fc55fe513e3", func := "jetway/jetwaylaw07.LocatorSums", spec := "locatorSums", apart := false, narrowed := true }
def LocatorSumsUptoSaid : Prop := locatorSumsUptoRow.holds Try.pinned (OpenSpec.upto locatorSumsSpec)

/-- 'jetwaylaw17.ScanPlays', WHERE WHAT IT READS IS OF BULK AT MOST 1048576: true; the input reads as it did. -/
def scanPlaysUptoRow : OpenClaim := { program := "ytlaieijlengojaa", sum := "0d171c2094a34151a3988f7b2d90441dbfa4f8f35df7abb05dd86fc55fe513e3", func := "jetway/jetwaylaw17.ScanPlays", spec := "scanPlays", apart := false, narrowed := true }
def ScanPlaysUptoSaid : Prop := scanPlaysUptoRow.holds Try.pinned (OpenSpec.upto scanPlaysSpec)

/-- 'jetwaylaw02.CodeTells', WHERE WHAT IT READS IS OF BULK AT MOST 1048576: true; the input reads as it did. -/
def codeTellsUptoRow : OpenClaim := { program := "ytlaieijlengojaa", sum := "0d171c2094a34151a3988f7b2d90441dbfa4f8f35df7abb05dd86fc55fe513e3", func := "jetway/jetwaylaw02.CodeTells", spec := "codeTells", apart := false, narrowed := true }
def CodeTellsUptoSaid : Prop := codeTellsUptoRow.holds Try.pinned (OpenSpec.upto codeTellsSpec)

/-- 'jetwaylaw02.CodeUpper', WHERE WHAT IT READS IS OF BULK AT MOST 1048576: true; the input reads as it did. -/
def codeUpperUptoRow : OpenClaim := { program := "ytlaieijlengojaa", sum := "0d171c2094a34151a3988f7b2d90441dbfa4f8f35df7abb05dd86fc55fe513e3", func := "jetway/jetwaylaw02.CodeUpper", spec := "codeUpper", apart := false, narrowed := true }
def CodeUpperUptoSaid : Prop := codeUpperUptoRow.holds Try.pinned (OpenSpec.upto codeUpperSpec)

/-- 'jetwaylaw02.CodeFree', WHERE WHAT IT READS IS OF BULK AT MOST 1048576: true; the input reads as it did. -/
def codeFreeUptoRow : OpenClaim := { program := "ytlaieijlengojaa", sum := "0d171c2094a34151a3988f7b2d90441dbfa4f8f35df7abb05dd86fc55fe513e3", func := "jetway/jetwaylaw02.CodeFree", spec := "codeFree", apart := false, narrowed := true }
def CodeFreeUptoSaid : Prop := codeFreeUptoRow.holds Try.pinned (OpenSpec.upto codeFreeSpec)

/-- 'jetwaylaw02.CodeJoins', WHERE WHAT IT READS IS OF BULK AT MOST 1048576: true; the input reads as it did. -/
def codeJoinsUptoRow : OpenClaim := { program := "ytlaieijlengojaa", sum := "0d171c2094a34151a3988f7b2d90441dbfa4f8f35df7abb05dd86fc55fe513e3", func := "jetway/jetwaylaw02.CodeJoins", spec := "codeJoins", apart := false, narrowed := true }
def CodeJoinsUptoSaid : Prop := codeJoinsUptoRow.holds Try.pinned (OpenSpec.upto codeJoinsSpec)

end Rows
end Go.Proofs.Ytlaieijlengojaa
