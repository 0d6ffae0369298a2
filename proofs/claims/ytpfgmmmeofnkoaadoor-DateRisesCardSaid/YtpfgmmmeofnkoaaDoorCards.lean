/-
  DERIVED. GIVEN WITH THE SEED: THE CARDS: each row of YtpfgmmmeofnkoaaDoorRows.lean that lists a variable, with what it lists TIED to the program's text (the seventh form; the later family's looks); each row that meets fmt, with fmt's text TOLD by the authors' own Lean function (tested against real Go, not proved from fmt's source: count such statements apart). THE CARD IS WHAT COUNTS. Prove the row's statement (the work); the ties are given (YtpfgmmmeofnkoaaDoorTie.lean); close each card by the builder's one call (the guide's Derived/Test/ToyasCard.lean, 'card_holds'). Laid BY PROGRAM, IN A SANDBOX (cutbox-door.mjs). By AI agents, Wed Nov 11 2026. No macro, syntax, notation, axiom, sorry.
-/
import Derived.Test.YtpfgmmmeofnkoaaDoorRows
import GoSem.ClaimSeven
namespace Go.Proofs.YtpfgmmmeofnkoaaDoor
namespace Rows

/-- THE TIED CARD OF 'jetwaylaw03.DateTexts'. -/
def dateTextsCard : Claim7 := { stood := { row := dateTextsRow, standIns := [], harness := (true, "24667324adb3ae544f85519505d31d2b23347511778ac296780f52483466e315"), looks := false }, kinds := [], alts := [], laidByText := true, laidKinds := [.data], laidTests := true, laidLooks := .later }
def DateTextsCardSaid : Prop := Claim7.holds Tryd.pinned (.plain (OpenSpec.ofChange dateTextsSpec)) dateTextsCard

/-- THE TIED CARD OF 'jetwaylaw03.DateReads'. -/
def dateReadsCard : Claim7 := { stood := { row := dateReadsRow, standIns := [], harness := (true, "24667324adb3ae544f85519505d31d2b23347511778ac296780f52483466e315"), looks := false }, kinds := [], alts := [], laidByText := true, laidKinds := [.data], laidTests := true, laidLooks := .later }
def DateReadsCardSaid : Prop := Claim7.holds Tryd.pinned (.plain (OpenSpec.ofChange dateReadsSpec)) dateReadsCard

/-- THE TIED CARD OF 'jetwaylaw03.DateBack'. -/
def dateBackCard : Claim7 := { stood := { row := dateBackRow, standIns := [], harness := (true, "24667324adb3ae544f85519505d31d2b23347511778ac296780f52483466e315"), looks := false }, kinds := [], alts := [], laidByText := true, laidKinds := [.data], laidTests := true, laidLooks := .later }
def DateBackCardSaid : Prop := Claim7.holds Tryd.pinned (.plain (OpenSpec.ofChange dateBackSpec)) dateBackCard

/-- THE TIED CARD OF 'jetwaylaw03.DateRises'. -/
def dateRisesCard : Claim7 := { stood := { row := dateRisesRow, standIns := [], harness := (true, "24667324adb3ae544f85519505d31d2b23347511778ac296780f52483466e315"), looks := false }, kinds := [], alts := [], laidByText := true, laidKinds := [.data], laidTests := true, laidLooks := .later }
def DateRisesCardSaid : Prop := Claim7.holds Tryd.pinned (.plain (OpenSpec.ofChange dateRisesSpec)) dateRisesCard

/-- THE TIED CARD OF 'jetwaylaw03.DateMoments'. -/
def dateMomentsCard : Claim7 := { stood := { row := dateMomentsRow, standIns := [], harness := (true, "24667324adb3ae544f85519505d31d2b23347511778ac296780f52483466e315"), looks := false }, kinds := [], alts := [], laidByText := true, laidKinds := [.data], laidTests := true, laidLooks := .later }
def DateMomentsCardSaid : Prop := Claim7.holds Tryd.pinned (.plain (OpenSpec.ofChange dateMomentsSpec)) dateMomentsCard

/-- THE SECOND FORM's CARD OF 'jetwaylaw03.DateTexts'. -/
def dateTextsUptoCard : Claim7 := { stood := { row := dateTextsUptoRow, standIns := [], harness := (true, "24667324adb3ae544f85519505d31d2b23347511778ac296780f52483466e315"), looks := false }, kinds := [], alts := [], laidByText := true, laidKinds := [.data], laidTests := true, laidLooks := .later }
def DateTextsUptoCardSaid : Prop := Claim7.holds Tryd.pinned (.plain (OpenSpec.upto dateTextsSpec)) dateTextsUptoCard

/-- THE SECOND FORM's CARD OF 'jetwaylaw03.DateReads'. -/
def dateReadsUptoCard : Claim7 := { stood := { row := dateReadsUptoRow, standIns := [], harness := (true, "24667324adb3ae544f85519505d31d2b23347511778ac296780f52483466e315"), looks := false }, kinds := [], alts := [], laidByText := true, laidKinds := [.data], laidTests := true, laidLooks := .later }
def DateReadsUptoCardSaid : Prop := Claim7.holds Tryd.pinned (.plain (OpenSpec.upto dateReadsSpec)) dateReadsUptoCard

/-- THE SECOND FORM's CARD OF 'jetwaylaw03.DateBack'. -/
def dateBackUptoCard : Claim7 := { stood := { row := dateBackUptoRow, standIns := [], harness := (true, "24667324adb3ae544f85519505d31d2b23347511778ac296780f52483466e315"), looks := false }, kinds := [], alts := [], laidByText := true, laidKinds := [.data], laidTests := true, laidLooks := .later }
def DateBackUptoCardSaid : Prop := Claim7.holds Tryd.pinned (.plain (OpenSpec.upto dateBackSpec)) dateBackUptoCard

/-- THE SECOND FORM's CARD OF 'jetwaylaw03.DateRises'. -/
def dateRisesUptoCard : Claim7 := { stood := { row := dateRisesUptoRow, standIns := [], harness := (true, "24667324adb3ae544f85519505d31d2b23347511778ac296780f52483466e315"), looks := false }, kinds := [], alts := [], laidByText := true, laidKinds := [.data], laidTests := true, laidLooks := .later }
def DateRisesUptoCardSaid : Prop := Claim7.holds Tryd.pinned (.plain (OpenSpec.upto dateRisesSpec)) dateRisesUptoCard

/-- THE SECOND FORM's CARD OF 'jetwaylaw03.DateMoments'. -/
def dateMomentsUptoCard : Claim7 := { stood := { row := dateMomentsUptoRow, standIns := [], harness := (true, "24667324adb3ae544f85519505d31d2b23347511778ac296780f52483466e315"), looks := false }, kinds := [], alts := [], laidByText := true, laidKinds := [.data], laidTests := true, laidLooks := .later }
def DateMomentsUptoCardSaid : Prop := Claim7.holds Tryd.pinned (.plain (OpenSpec.upto dateMomentsSpec)) dateMomentsUptoCard
end Rows
end Go.Proofs.YtpfgmmmeofnkoaaDoor
