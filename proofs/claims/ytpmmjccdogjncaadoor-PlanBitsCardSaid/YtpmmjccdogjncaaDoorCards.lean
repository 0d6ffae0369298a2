/-
  DERIVED. GIVEN WITH THE SEED: THE CARDS: each row of YtpmmjccdogjncaaDoorRows.lean that lists a variable, with what it lists TIED to the program's text (the seventh form; the later family's looks); each row that meets fmt, with fmt's text TOLD by the authors' own Lean function (tested against real Go, not proved from fmt's source: count such statements apart). THE CARD IS WHAT COUNTS. Prove the row's statement (the work); the ties are given (YtpmmjccdogjncaaDoorTie.lean); close each card by the builder's one call (the guide's Derived/Test/ToyasCard.lean, 'card_holds'). Laid BY PROGRAM, IN A SANDBOX (cutbox-door.mjs). By AI agents, Wed Nov 11 2026. No macro, syntax, notation, axiom, sorry.
-/
import Derived.Test.YtpmmjccdogjncaaDoorRows
import GoSem.ClaimSeven
namespace Go.Proofs.YtpmmjccdogjncaaDoor
namespace Rows

/-- THE TIED CARD OF 'jetwaylaw09.PlanTexts'. -/
def planTextsCard : Claim7 := { stood := { row := planTextsRow, standIns := [], harness := (true, "c93ab0c8b347937489ba18187ed54576d0c6e2dceebbb08bc98f11f40adf976a"), looks := false }, kinds := [], alts := [], laidByText := true, laidKinds := [.data, .data, .data], laidTests := true, laidLooks := .later }
def PlanTextsCardSaid : Prop := Claim7.holds Tryd.pinned (.plain (OpenSpec.ofChange planTextsSpec)) planTextsCard

/-- THE TIED CARD OF 'jetwaylaw09.PlanChecks'. -/
def planChecksCard : Claim7 := { stood := { row := planChecksRow, standIns := [], harness := (true, "c93ab0c8b347937489ba18187ed54576d0c6e2dceebbb08bc98f11f40adf976a"), looks := false }, kinds := [], alts := [], laidByText := true, laidKinds := [.data, .data, .data], laidTests := true, laidLooks := .later }
def PlanChecksCardSaid : Prop := Claim7.holds Tryd.pinned (.plain (OpenSpec.ofChange planChecksSpec)) planChecksCard

/-- THE TIED CARD OF 'jetwaylaw09.PlanSeats'. -/
def planSeatsCard : Claim7 := { stood := { row := planSeatsRow, standIns := [], harness := (true, "c93ab0c8b347937489ba18187ed54576d0c6e2dceebbb08bc98f11f40adf976a"), looks := false }, kinds := [], alts := [], laidByText := true, laidKinds := [.data, .data, .data], laidTests := true, laidLooks := .later }
def PlanSeatsCardSaid : Prop := Claim7.holds Tryd.pinned (.plain (OpenSpec.ofChange planSeatsSpec)) planSeatsCard

/-- THE TIED CARD OF 'jetwaylaw09.PlanRows'. -/
def planRowsCard : Claim7 := { stood := { row := planRowsRow, standIns := [], harness := (true, "c93ab0c8b347937489ba18187ed54576d0c6e2dceebbb08bc98f11f40adf976a"), looks := false }, kinds := [], alts := [], laidByText := true, laidKinds := [.data, .data, .data], laidTests := true, laidLooks := .later }
def PlanRowsCardSaid : Prop := Claim7.holds Tryd.pinned (.plain (OpenSpec.ofChange planRowsSpec)) planRowsCard

/-- THE TIED CARD OF 'jetwaylaw09.PlanBits'. -/
def planBitsCard : Claim7 := { stood := { row := planBitsRow, standIns := [], harness := (true, "c93ab0c8b347937489ba18187ed54576d0c6e2dceebbb08bc98f11f40adf976a"), looks := false }, kinds := [], alts := [], laidByText := true, laidKinds := [.data, .data, .data], laidTests := true, laidLooks := .later }
def PlanBitsCardSaid : Prop := Claim7.holds Tryd.pinned (.plain (OpenSpec.ofChange planBitsSpec)) planBitsCard

/-- THE TIED CARD OF 'jetwaylaw09.PlanBack'. -/
def planBackCard : Claim7 := { stood := { row := planBackRow, standIns := [], harness := (true, "c93ab0c8b347937489ba18187ed54576d0c6e2dceebbb08bc98f11f40adf976a"), looks := false }, kinds := [], alts := [], laidByText := true, laidKinds := [.data, .data, .data], laidTests := true, laidLooks := .later }
def PlanBackCardSaid : Prop := Claim7.holds Tryd.pinned (.plain (OpenSpec.ofChange planBackSpec)) planBackCard

/-- THE TIED CARD OF 'jetwaylaw21.ScreenLines'. -/
def screenLinesCard : Claim7 := { stood := { row := screenLinesRow, standIns := [], harness := (true, "c93ab0c8b347937489ba18187ed54576d0c6e2dceebbb08bc98f11f40adf976a"), looks := false }, kinds := [], alts := [], laidByText := true, laidKinds := [.data, .data, .data, .data, .pinned], laidTests := true, laidLooks := .later }
def ScreenLinesCardSaid : Prop := Claim7.holds Tryd.pinned (.plain (OpenSpec.ofChange screenLinesSpec)) screenLinesCard

/-- THE TIED CARD OF 'jetwaylaw21.ScreenRenders'. -/
def screenRendersCard : Claim7 := { stood := { row := screenRendersRow, standIns := [], harness := (true, "c93ab0c8b347937489ba18187ed54576d0c6e2dceebbb08bc98f11f40adf976a"), looks := false }, kinds := [], alts := [], laidByText := true, laidKinds := [.data, .data, .data, .data, .pinned], laidTests := true, laidLooks := .later }
def ScreenRendersCardSaid : Prop := Claim7.holds Tryd.pinned (.plain (OpenSpec.ofChange screenRendersSpec)) screenRendersCard

/-- THE TIED CARD OF 'jetwaylaw21.ScreenTexts'. -/
def screenTextsCard : Claim7 := { stood := { row := screenTextsRow, standIns := [], harness := (true, "c93ab0c8b347937489ba18187ed54576d0c6e2dceebbb08bc98f11f40adf976a"), looks := false }, kinds := [], alts := [], laidByText := true, laidKinds := [.data, .data, .data, .data, .pinned], laidTests := true, laidLooks := .later }
def ScreenTextsCardSaid : Prop := Claim7.holds Tryd.pinned (.plain (OpenSpec.ofChange screenTextsSpec)) screenTextsCard

/-- THE TIED CARD OF 'jetwaylaw21.ScreenWhole'. -/
def screenWholeCard : Claim7 := { stood := { row := screenWholeRow, standIns := [], harness := (true, "c93ab0c8b347937489ba18187ed54576d0c6e2dceebbb08bc98f11f40adf976a"), looks := false }, kinds := [], alts := [], laidByText := true, laidKinds := [.data, .data, .data, .data, .pinned], laidTests := true, laidLooks := .later }
def ScreenWholeCardSaid : Prop := Claim7.holds Tryd.pinned (.plain (OpenSpec.ofChange screenWholeSpec)) screenWholeCard

/-- THE TIED CARD OF 'jetwaylaw21.ScreenUnlike'. -/
def screenUnlikeCard : Claim7 := { stood := { row := screenUnlikeRow, standIns := [], harness := (true, "c93ab0c8b347937489ba18187ed54576d0c6e2dceebbb08bc98f11f40adf976a"), looks := false }, kinds := [], alts := [], laidByText := true, laidKinds := [.data, .data, .data, .data, .pinned], laidTests := true, laidLooks := .later }
def ScreenUnlikeCardSaid : Prop := Claim7.holds Tryd.pinned (.plain (OpenSpec.ofChange screenUnlikeSpec)) screenUnlikeCard

/-- THE SECOND FORM's CARD OF 'jetwaylaw09.PlanTexts'. -/
def planTextsUptoCard : Claim7 := { stood := { row := planTextsUptoRow, standIns := [], harness := (true, "c93ab0c8b347937489ba18187ed54576d0c6e2dceebbb08bc98f11f40adf976a"), looks := false }, kinds := [], alts := [], laidByText := true, laidKinds := [.data, .data, .data], laidTests := true, laidLooks := .later }
def PlanTextsUptoCardSaid : Prop := Claim7.holds Tryd.pinned (.plain (OpenSpec.upto planTextsSpec)) planTextsUptoCard

/-- THE SECOND FORM's CARD OF 'jetwaylaw09.PlanChecks'. -/
def planChecksUptoCard : Claim7 := { stood := { row := planChecksUptoRow, standIns := [], harness := (true, "c93ab0c8b347937489ba18187ed54576d0c6e2dceebbb08bc98f11f40adf976a"), looks := false }, kinds := [], alts := [], laidByText := true, laidKinds := [.data, .data, .data], laidTests := true, laidLooks := .later }
def PlanChecksUptoCardSaid : Prop := Claim7.holds Tryd.pinned (.plain (OpenSpec.upto planChecksSpec)) planChecksUptoCard

/-- THE SECOND FORM's CARD OF 'jetwaylaw09.PlanSeats'. -/
def planSeatsUptoCard : Claim7 := { stood := { row := planSeatsUptoRow, standIns := [], harness := (true, "c93ab0c8b347937489ba18187ed54576d0c6e2dceebbb08bc98f11f40adf976a"), looks := false }, kinds := [], alts := [], laidByText := true, laidKinds := [.data, .data, .data], laidTests := true, laidLooks := .later }
def PlanSeatsUptoCardSaid : Prop := Claim7.holds Tryd.pinned (.plain (OpenSpec.upto planSeatsSpec)) planSeatsUptoCard

/-- THE SECOND FORM's CARD OF 'jetwaylaw09.PlanRows'. -/
def planRowsUptoCard : Claim7 := { stood := { row := planRowsUptoRow, standIns := [], harness := (true, "c93ab0c8b347937489ba18187ed54576d0c6e2dceebbb08bc98f11f40adf976a"), looks := false }, kinds := [], alts := [], laidByText := true, laidKinds := [.data, .data, .data], laidTests := true, laidLooks := .later }
def PlanRowsUptoCardSaid : Prop := Claim7.holds Tryd.pinned (.plain (OpenSpec.upto planRowsSpec)) planRowsUptoCard

/-- THE SECOND FORM's CARD OF 'jetwaylaw09.PlanBits'. -/
def planBitsUptoCard : Claim7 := { stood := { row := planBitsUptoRow, standIns := [], harness := (true, "c93ab0c8b347937489ba18187ed54576d0c6e2dceebbb08bc98f11f40adf976a"), looks := false }, kinds := [], alts := [], laidByText := true, laidKinds := [.data, .data, .data], laidTests := true, laidLooks := .later }
def PlanBitsUptoCardSaid : Prop := Claim7.holds Tryd.pinned (.plain (OpenSpec.upto planBitsSpec)) planBitsUptoCard

/-- THE SECOND FORM's CARD OF 'jetwaylaw09.PlanBack'. -/
def planBackUptoCard : Claim7 := { stood := { row := planBackUptoRow, standIns := [], harness := (true, "c93ab0c8b347937489ba18187ed54576d0c6e2dceebbb08bc98f11f40adf976a"), looks := false }, kinds := [], alts := [], laidByText := true, laidKinds := [.data, .data, .data], laidTests := true, laidLooks := .later }
def PlanBackUptoCardSaid : Prop := Claim7.holds Tryd.pinned (.plain (OpenSpec.upto planBackSpec)) planBackUptoCard

/-- THE SECOND FORM's CARD OF 'jetwaylaw21.ScreenLines'. -/
def screenLinesUptoCard : Claim7 := { stood := { row := screenLinesUptoRow, standIns := [], harness := (true, "c93ab0c8b347937489ba18187ed54576d0c6e2dceebbb08bc98f11f40adf976a"), looks := false }, kinds := [], alts := [], laidByText := true, laidKinds := [.data, .data, .data, .data, .pinned], laidTests := true, laidLooks := .later }
def ScreenLinesUptoCardSaid : Prop := Claim7.holds Tryd.pinned (.plain (OpenSpec.upto screenLinesSpec)) screenLinesUptoCard

/-- THE SECOND FORM's CARD OF 'jetwaylaw21.ScreenRenders'. -/
def screenRendersUptoCard : Claim7 := { stood := { row := screenRendersUptoRow, standIns := [], harness := (true, "c93ab0c8b347937489ba18187ed54576d0c6e2dceebbb08bc98f11f40adf976a"), looks := false }, kinds := [], alts := [], laidByText := true, laidKinds := [.data, .data, .data, .data, .pinned], laidTests := true, laidLooks := .later }
def ScreenRendersUptoCardSaid : Prop := Claim7.holds Tryd.pinned (.plain (OpenSpec.upto screenRendersSpec)) screenRendersUptoCard

/-- THE SECOND FORM's CARD OF 'jetwaylaw21.ScreenTexts'. -/
def screenTextsUptoCard : Claim7 := { stood := { row := screenTextsUptoRow, standIns := [], harness := (true, "c93ab0c8b347937489ba18187ed54576d0c6e2dceebbb08bc98f11f40adf976a"), looks := false }, kinds := [], alts := [], laidByText := true, laidKinds := [.data, .data, .data, .data, .pinned], laidTests := true, laidLooks := .later }
def ScreenTextsUptoCardSaid : Prop := Claim7.holds Tryd.pinned (.plain (OpenSpec.upto screenTextsSpec)) screenTextsUptoCard

/-- THE SECOND FORM's CARD OF 'jetwaylaw21.ScreenWhole'. -/
def screenWholeUptoCard : Claim7 := { stood := { row := screenWholeUptoRow, standIns := [], harness := (true, "c93ab0c8b347937489ba18187ed54576d0c6e2dceebbb08bc98f11f40adf976a"), looks := false }, kinds := [], alts := [], laidByText := true, laidKinds := [.data, .data, .data, .data, .pinned], laidTests := true, laidLooks := .later }
def ScreenWholeUptoCardSaid : Prop := Claim7.holds Tryd.pinned (.plain (OpenSpec.upto screenWholeSpec)) screenWholeUptoCard

/-- THE SECOND FORM's CARD OF 'jetwaylaw21.ScreenUnlike'. -/
def screenUnlikeUptoCard : Claim7 := { stood := { row := screenUnlikeUptoRow, standIns := [], harness := (true, "c93ab0c8b347937489ba18187ed54576d0c6e2dceebbb08bc98f11f40adf976a"), looks := false }, kinds := [], alts := [], laidByText := true, laidKinds := [.data, .data, .data, .data, .pinned], laidTests := true, laidLooks := .later }
def ScreenUnlikeUptoCardSaid : Prop := Claim7.holds Tryd.pinned (.plain (OpenSpec.upto screenUnlikeSpec)) screenUnlikeUptoCard
end Rows
end Go.Proofs.YtpmmjccdogjncaaDoor
