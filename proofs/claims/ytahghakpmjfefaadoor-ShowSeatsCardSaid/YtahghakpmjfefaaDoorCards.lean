/-
  DERIVED. GIVEN WITH THE SEED: THE CARDS: each row of YtahghakpmjfefaaDoorRows.lean that lists a variable, with what it lists TIED to the program's text (the seventh form; the later family's looks); each row that meets fmt, with fmt's text TOLD by the authors' own Lean function (tested against real Go, not proved from fmt's source: count such statements apart). THE CARD IS WHAT COUNTS. Prove the row's statement (the work); the ties are given (YtahghakpmjfefaaDoorTie.lean); close each card by the builder's one call (the guide's Derived/Test/ToyasCard.lean, 'card_holds'). Laid BY PROGRAM, IN A SANDBOX (cutbox-door.mjs). By AI agents, Wed Nov 11 2026. No macro, syntax, notation, axiom, sorry.
-/
import Derived.Test.YtahghakpmjfefaaDoorRows
import GoSem.ClaimSeven
namespace Go.Proofs.YtahghakpmjfefaaDoor
namespace Rows

/-- THE TIED CARD OF 'jetwaylaw22.ShowPnrs'. -/
def showPnrsCard : Claim7 := { stood := { row := showPnrsRow, standIns := [], harness := (true, "bc031eb78b830460df7c0de1f58297048ab41980111f78d52dc0a9bdc839978e"), looks := false }, kinds := [], alts := [], laidByText := true, laidKinds := [.data, .data, .data, .data, .data, .pinned], laidTests := true, laidLooks := .later }
def ShowPnrsCardSaid : Prop := Claim7.holds Tryd.pinned (.plain (OpenSpec.ofChange showPnrsSpec)) showPnrsCard

/-- THE TIED CARD OF 'jetwaylaw22.ShowAvail'. -/
def showAvailCard : Claim7 := { stood := { row := showAvailRow, standIns := [], harness := (true, "bc031eb78b830460df7c0de1f58297048ab41980111f78d52dc0a9bdc839978e"), looks := false }, kinds := [], alts := [], laidByText := true, laidKinds := [.data, .data, .data, .data, .data, .pinned], laidTests := true, laidLooks := .later }
def ShowAvailCardSaid : Prop := Claim7.holds Tryd.pinned (.plain (OpenSpec.ofChange showAvailSpec)) showAvailCard

/-- THE TIED CARD OF 'jetwaylaw22.ShowMaps'. -/
def showMapsCard : Claim7 := { stood := { row := showMapsRow, standIns := [], harness := (true, "bc031eb78b830460df7c0de1f58297048ab41980111f78d52dc0a9bdc839978e"), looks := false }, kinds := [], alts := [], laidByText := true, laidKinds := [.data, .data, .data, .data, .data, .pinned], laidTests := true, laidLooks := .later }
def ShowMapsCardSaid : Prop := Claim7.holds Tryd.pinned (.plain (OpenSpec.ofChange showMapsSpec)) showMapsCard

/-- THE TIED CARD OF 'jetwaylaw22.ShowSizes'. -/
def showSizesCard : Claim7 := { stood := { row := showSizesRow, standIns := [], harness := (true, "bc031eb78b830460df7c0de1f58297048ab41980111f78d52dc0a9bdc839978e"), looks := false }, kinds := [], alts := [], laidByText := true, laidKinds := [.data, .data, .data, .data, .data, .pinned], laidTests := true, laidLooks := .later }
def ShowSizesCardSaid : Prop := Claim7.holds Tryd.pinned (.plain (OpenSpec.ofChange showSizesSpec)) showSizesCard

/-- THE TIED CARD OF 'jetwaylaw22.ShowErrors'. -/
def showErrorsCard : Claim7 := { stood := { row := showErrorsRow, standIns := [], harness := (true, "bc031eb78b830460df7c0de1f58297048ab41980111f78d52dc0a9bdc839978e"), looks := false }, kinds := [], alts := [], laidByText := true, laidKinds := [.data, .data, .data, .data, .data, .pinned], laidTests := true, laidLooks := .later }
def ShowErrorsCardSaid : Prop := Claim7.holds Tryd.pinned (.plain (OpenSpec.ofChange showErrorsSpec)) showErrorsCard

/-- THE TIED CARD OF 'jetwaylaw22.ShowSeats'. -/
def showSeatsCard : Claim7 := { stood := { row := showSeatsRow, standIns := [], harness := (true, "bc031eb78b830460df7c0de1f58297048ab41980111f78d52dc0a9bdc839978e"), looks := false }, kinds := [], alts := [], laidByText := true, laidKinds := [.data, .data, .data, .data, .data, .pinned], laidTests := true, laidLooks := .later }
def ShowSeatsCardSaid : Prop := Claim7.holds Tryd.pinned (.plain (OpenSpec.ofChange showSeatsSpec)) showSeatsCard

/-- THE SECOND FORM's CARD OF 'jetwaylaw22.ShowPnrs'. -/
def showPnrsUptoCard : Claim7 := { stood := { row := showPnrsUptoRow, standIns := [], harness := (true, "bc031eb78b830460df7c0de1f58297048ab41980111f78d52dc0a9bdc839978e"), looks := false }, kinds := [], alts := [], laidByText := true, laidKinds := [.data, .data, .data, .data, .data, .pinned], laidTests := true, laidLooks := .later }
def ShowPnrsUptoCardSaid : Prop := Claim7.holds Tryd.pinned (.plain (OpenSpec.upto showPnrsSpec)) showPnrsUptoCard

/-- THE SECOND FORM's CARD OF 'jetwaylaw22.ShowAvail'. -/
def showAvailUptoCard : Claim7 := { stood := { row := showAvailUptoRow, standIns := [], harness := (true, "bc031eb78b830460df7c0de1f58297048ab41980111f78d52dc0a9bdc839978e"), looks := false }, kinds := [], alts := [], laidByText := true, laidKinds := [.data, .data, .data, .data, .data, .pinned], laidTests := true, laidLooks := .later }
def ShowAvailUptoCardSaid : Prop := Claim7.holds Tryd.pinned (.plain (OpenSpec.upto showAvailSpec)) showAvailUptoCard

/-- THE SECOND FORM's CARD OF 'jetwaylaw22.ShowMaps'. -/
def showMapsUptoCard : Claim7 := { stood := { row := showMapsUptoRow, standIns := [], harness := (true, "bc031eb78b830460df7c0de1f58297048ab41980111f78d52dc0a9bdc839978e"), looks := false }, kinds := [], alts := [], laidByText := true, laidKinds := [.data, .data, .data, .data, .data, .pinned], laidTests := true, laidLooks := .later }
def ShowMapsUptoCardSaid : Prop := Claim7.holds Tryd.pinned (.plain (OpenSpec.upto showMapsSpec)) showMapsUptoCard

/-- THE SECOND FORM's CARD OF 'jetwaylaw22.ShowSizes'. -/
def showSizesUptoCard : Claim7 := { stood := { row := showSizesUptoRow, standIns := [], harness := (true, "bc031eb78b830460df7c0de1f58297048ab41980111f78d52dc0a9bdc839978e"), looks := false }, kinds := [], alts := [], laidByText := true, laidKinds := [.data, .data, .data, .data, .data, .pinned], laidTests := true, laidLooks := .later }
def ShowSizesUptoCardSaid : Prop := Claim7.holds Tryd.pinned (.plain (OpenSpec.upto showSizesSpec)) showSizesUptoCard

/-- THE SECOND FORM's CARD OF 'jetwaylaw22.ShowErrors'. -/
def showErrorsUptoCard : Claim7 := { stood := { row := showErrorsUptoRow, standIns := [], harness := (true, "bc031eb78b830460df7c0de1f58297048ab41980111f78d52dc0a9bdc839978e"), looks := false }, kinds := [], alts := [], laidByText := true, laidKinds := [.data, .data, .data, .data, .data, .pinned], laidTests := true, laidLooks := .later }
def ShowErrorsUptoCardSaid : Prop := Claim7.holds Tryd.pinned (.plain (OpenSpec.upto showErrorsSpec)) showErrorsUptoCard

/-- THE SECOND FORM's CARD OF 'jetwaylaw22.ShowSeats'. -/
def showSeatsUptoCard : Claim7 := { stood := { row := showSeatsUptoRow, standIns := [], harness := (true, "bc031eb78b830460df7c0de1f58297048ab41980111f78d52dc0a9bdc839978e"), looks := false }, kinds := [], alts := [], laidByText := true, laidKinds := [.data, .data, .data, .data, .data, .pinned], laidTests := true, laidLooks := .later }
def ShowSeatsUptoCardSaid : Prop := Claim7.holds Tryd.pinned (.plain (OpenSpec.upto showSeatsSpec)) showSeatsUptoCard
end Rows
end Go.Proofs.YtahghakpmjfefaaDoor
