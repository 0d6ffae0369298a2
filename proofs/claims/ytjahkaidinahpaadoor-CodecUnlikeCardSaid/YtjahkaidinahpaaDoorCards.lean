/-
  DERIVED. GIVEN WITH THE SEED: THE CARDS: each row of YtjahkaidinahpaaDoorRows.lean that lists a variable, with what it lists TIED to the program's text (the seventh form; the later family's looks); each row that meets fmt, with fmt's text TOLD by the authors' own Lean function (tested against real Go, not proved from fmt's source: count such statements apart). THE CARD IS WHAT COUNTS. Prove the row's statement (the work); the ties are given (YtjahkaidinahpaaDoorTie.lean); close each card by the builder's one call (the guide's Derived/Test/ToyasCard.lean, 'card_holds'). Laid BY PROGRAM, IN A SANDBOX (cutbox-door.mjs). By AI agents, Wed Nov 11 2026. No macro, syntax, notation, axiom, sorry.
-/
import Derived.Test.YtjahkaidinahpaaDoorRows
import GoSem.ClaimSeven
namespace Go.Proofs.YtjahkaidinahpaaDoor
namespace Rows

/-- THE TIED CARD OF 'jetwaylaw14.CodecUnlike'. -/
def codecUnlikeCard : Claim7 := { stood := { row := codecUnlikeRow, standIns := [], harness := (true, "5553e198114bfd7f0b0c37de99b27753501ac5d477d242ccbafa23803fe67ac0"), looks := true }, kinds := [], alts := [], laidByText := true, laidKinds := [.data, .data, .data], laidTests := true, laidLooks := .later }
def CodecUnlikeCardSaid : Prop := Claim7.holds Tryd.pinned (.plain (OpenSpec.ofChange codecUnlikeSpec)) codecUnlikeCard

/-- THE TIED CARD OF 'jetwaylaw14.CodecRows'. -/
def codecRowsCard : Claim7 := { stood := { row := codecRowsRow, standIns := [], harness := (true, "5553e198114bfd7f0b0c37de99b27753501ac5d477d242ccbafa23803fe67ac0"), looks := true }, kinds := [], alts := [], laidByText := true, laidKinds := [.data, .data, .data], laidTests := true, laidLooks := .later }
def CodecRowsCardSaid : Prop := Claim7.holds Tryd.pinned (.plain (OpenSpec.ofChange codecRowsSpec)) codecRowsCard

/-- THE TIED CARD OF 'jetwaylaw18.EntryParses'. -/
def entryParsesCard : Claim7 := { stood := { row := entryParsesRow, standIns := [], harness := (true, "5553e198114bfd7f0b0c37de99b27753501ac5d477d242ccbafa23803fe67ac0"), looks := true }, kinds := [], alts := [], laidByText := true, laidKinds := [.data, .data, .data, .data], laidTests := true, laidLooks := .later }
def EntryParsesCardSaid : Prop := Claim7.holds Tryd.pinned (.plain (OpenSpec.ofChange entryParsesSpec)) entryParsesCard

/-- THE TIED CARD OF 'jetwaylaw18.EntryPrints'. -/
def entryPrintsCard : Claim7 := { stood := { row := entryPrintsRow, standIns := [], harness := (true, "5553e198114bfd7f0b0c37de99b27753501ac5d477d242ccbafa23803fe67ac0"), looks := true }, kinds := [], alts := [], laidByText := true, laidKinds := [.data, .data, .data, .data], laidTests := true, laidLooks := .later }
def EntryPrintsCardSaid : Prop := Claim7.holds Tryd.pinned (.plain (OpenSpec.ofChange entryPrintsSpec)) entryPrintsCard

/-- THE TIED CARD OF 'jetwaylaw18.EntryBack'. -/
def entryBackCard : Claim7 := { stood := { row := entryBackRow, standIns := [], harness := (true, "5553e198114bfd7f0b0c37de99b27753501ac5d477d242ccbafa23803fe67ac0"), looks := true }, kinds := [], alts := [], laidByText := true, laidKinds := [.data, .data, .data, .data], laidTests := true, laidLooks := .later }
def EntryBackCardSaid : Prop := Claim7.holds Tryd.pinned (.plain (OpenSpec.ofChange entryBackSpec)) entryBackCard

/-- THE TIED CARD OF 'jetwaylaw18.EntryFaults'. -/
def entryFaultsCard : Claim7 := { stood := { row := entryFaultsRow, standIns := [], harness := (true, "5553e198114bfd7f0b0c37de99b27753501ac5d477d242ccbafa23803fe67ac0"), looks := true }, kinds := [], alts := [], laidByText := true, laidKinds := [.data, .data, .data, .data], laidTests := true, laidLooks := .later }
def EntryFaultsCardSaid : Prop := Claim7.holds Tryd.pinned (.plain (OpenSpec.ofChange entryFaultsSpec)) entryFaultsCard

/-- THE TIED CARD OF 'jetwaylaw18.EntryMore'. -/
def entryMoreCard : Claim7 := { stood := { row := entryMoreRow, standIns := [], harness := (true, "5553e198114bfd7f0b0c37de99b27753501ac5d477d242ccbafa23803fe67ac0"), looks := true }, kinds := [], alts := [], laidByText := true, laidKinds := [.data, .data, .data, .data], laidTests := true, laidLooks := .later }
def EntryMoreCardSaid : Prop := Claim7.holds Tryd.pinned (.plain (OpenSpec.ofChange entryMoreSpec)) entryMoreCard

/-- THE TIED CARD OF 'jetwaylaw14.CodecLegs'. -/
def codecLegsCard : Claim7 := { stood := { row := codecLegsRow, standIns := [], harness := (true, "5553e198114bfd7f0b0c37de99b27753501ac5d477d242ccbafa23803fe67ac0"), looks := true }, kinds := [], alts := [], laidByText := true, laidKinds := [.data, .data, .data], laidTests := true, laidLooks := .later }
def CodecLegsCardSaid : Prop := Claim7.holds Tryd.pinned (.plain (OpenSpec.ofChange codecLegsSpec)) codecLegsCard

/-- THE TIED CARD OF 'jetwaylaw14.CodecBack'. -/
def codecBackCard : Claim7 := { stood := { row := codecBackRow, standIns := [], harness := (true, "5553e198114bfd7f0b0c37de99b27753501ac5d477d242ccbafa23803fe67ac0"), looks := true }, kinds := [], alts := [], laidByText := true, laidKinds := [.data, .data, .data], laidTests := true, laidLooks := .later }
def CodecBackCardSaid : Prop := Claim7.holds Tryd.pinned (.plain (OpenSpec.ofChange codecBackSpec)) codecBackCard

/-- THE TIED CARD OF 'jetwaylaw14.CodecOnly'. -/
def codecOnlyCard : Claim7 := { stood := { row := codecOnlyRow, standIns := [], harness := (true, "5553e198114bfd7f0b0c37de99b27753501ac5d477d242ccbafa23803fe67ac0"), looks := true }, kinds := [], alts := [], laidByText := true, laidKinds := [.data, .data, .data], laidTests := true, laidLooks := .later }
def CodecOnlyCardSaid : Prop := Claim7.holds Tryd.pinned (.plain (OpenSpec.ofChange codecOnlySpec)) codecOnlyCard

/-- THE SECOND FORM's CARD OF 'jetwaylaw14.CodecUnlike'. -/
def codecUnlikeUptoCard : Claim7 := { stood := { row := codecUnlikeUptoRow, standIns := [], harness := (true, "5553e198114bfd7f0b0c37de99b27753501ac5d477d242ccbafa23803fe67ac0"), looks := true }, kinds := [], alts := [], laidByText := true, laidKinds := [.data, .data, .data], laidTests := true, laidLooks := .later }
def CodecUnlikeUptoCardSaid : Prop := Claim7.holds Tryd.pinned (.plain (OpenSpec.upto codecUnlikeSpec)) codecUnlikeUptoCard

/-- THE SECOND FORM's CARD OF 'jetwaylaw14.CodecRows'. -/
def codecRowsUptoCard : Claim7 := { stood := { row := codecRowsUptoRow, standIns := [], harness := (true, "5553e198114bfd7f0b0c37de99b27753501ac5d477d242ccbafa23803fe67ac0"), looks := true }, kinds := [], alts := [], laidByText := true, laidKinds := [.data, .data, .data], laidTests := true, laidLooks := .later }
def CodecRowsUptoCardSaid : Prop := Claim7.holds Tryd.pinned (.plain (OpenSpec.upto codecRowsSpec)) codecRowsUptoCard

/-- THE SECOND FORM's CARD OF 'jetwaylaw18.EntryParses'. -/
def entryParsesUptoCard : Claim7 := { stood := { row := entryParsesUptoRow, standIns := [], harness := (true, "5553e198114bfd7f0b0c37de99b27753501ac5d477d242ccbafa23803fe67ac0"), looks := true }, kinds := [], alts := [], laidByText := true, laidKinds := [.data, .data, .data, .data], laidTests := true, laidLooks := .later }
def EntryParsesUptoCardSaid : Prop := Claim7.holds Tryd.pinned (.plain (OpenSpec.upto entryParsesSpec)) entryParsesUptoCard

/-- THE SECOND FORM's CARD OF 'jetwaylaw18.EntryPrints'. -/
def entryPrintsUptoCard : Claim7 := { stood := { row := entryPrintsUptoRow, standIns := [], harness := (true, "5553e198114bfd7f0b0c37de99b27753501ac5d477d242ccbafa23803fe67ac0"), looks := true }, kinds := [], alts := [], laidByText := true, laidKinds := [.data, .data, .data, .data], laidTests := true, laidLooks := .later }
def EntryPrintsUptoCardSaid : Prop := Claim7.holds Tryd.pinned (.plain (OpenSpec.upto entryPrintsSpec)) entryPrintsUptoCard

/-- THE SECOND FORM's CARD OF 'jetwaylaw18.EntryBack'. -/
def entryBackUptoCard : Claim7 := { stood := { row := entryBackUptoRow, standIns := [], harness := (true, "5553e198114bfd7f0b0c37de99b27753501ac5d477d242ccbafa23803fe67ac0"), looks := true }, kinds := [], alts := [], laidByText := true, laidKinds := [.data, .data, .data, .data], laidTests := true, laidLooks := .later }
def EntryBackUptoCardSaid : Prop := Claim7.holds Tryd.pinned (.plain (OpenSpec.upto entryBackSpec)) entryBackUptoCard

/-- THE SECOND FORM's CARD OF 'jetwaylaw18.EntryFaults'. -/
def entryFaultsUptoCard : Claim7 := { stood := { row := entryFaultsUptoRow, standIns := [], harness := (true, "5553e198114bfd7f0b0c37de99b27753501ac5d477d242ccbafa23803fe67ac0"), looks := true }, kinds := [], alts := [], laidByText := true, laidKinds := [.data, .data, .data, .data], laidTests := true, laidLooks := .later }
def EntryFaultsUptoCardSaid : Prop := Claim7.holds Tryd.pinned (.plain (OpenSpec.upto entryFaultsSpec)) entryFaultsUptoCard

/-- THE SECOND FORM's CARD OF 'jetwaylaw18.EntryMore'. -/
def entryMoreUptoCard : Claim7 := { stood := { row := entryMoreUptoRow, standIns := [], harness := (true, "5553e198114bfd7f0b0c37de99b27753501ac5d477d242ccbafa23803fe67ac0"), looks := true }, kinds := [], alts := [], laidByText := true, laidKinds := [.data, .data, .data, .data], laidTests := true, laidLooks := .later }
def EntryMoreUptoCardSaid : Prop := Claim7.holds Tryd.pinned (.plain (OpenSpec.upto entryMoreSpec)) entryMoreUptoCard

/-- THE SECOND FORM's CARD OF 'jetwaylaw14.CodecLegs'. -/
def codecLegsUptoCard : Claim7 := { stood := { row := codecLegsUptoRow, standIns := [], harness := (true, "5553e198114bfd7f0b0c37de99b27753501ac5d477d242ccbafa23803fe67ac0"), looks := true }, kinds := [], alts := [], laidByText := true, laidKinds := [.data, .data, .data], laidTests := true, laidLooks := .later }
def CodecLegsUptoCardSaid : Prop := Claim7.holds Tryd.pinned (.plain (OpenSpec.upto codecLegsSpec)) codecLegsUptoCard

/-- THE SECOND FORM's CARD OF 'jetwaylaw14.CodecBack'. -/
def codecBackUptoCard : Claim7 := { stood := { row := codecBackUptoRow, standIns := [], harness := (true, "5553e198114bfd7f0b0c37de99b27753501ac5d477d242ccbafa23803fe67ac0"), looks := true }, kinds := [], alts := [], laidByText := true, laidKinds := [.data, .data, .data], laidTests := true, laidLooks := .later }
def CodecBackUptoCardSaid : Prop := Claim7.holds Tryd.pinned (.plain (OpenSpec.upto codecBackSpec)) codecBackUptoCard

/-- THE SECOND FORM's CARD OF 'jetwaylaw14.CodecOnly'. -/
def codecOnlyUptoCard : Claim7 := { stood := { row := codecOnlyUptoRow, standIns := [], harness := (true, "5553e198114bfd7f0b0c37de99b27753501ac5d477d242ccbafa23803fe67ac0"), looks := true }, kinds := [], alts := [], laidByText := true, laidKinds := [.data, .data, .data], laidTests := true, laidLooks := .later }
def CodecOnlyUptoCardSaid : Prop := Claim7.holds Tryd.pinned (.plain (OpenSpec.upto codecOnlySpec)) codecOnlyUptoCard
end Rows
end Go.Proofs.YtjahkaidinahpaaDoor
