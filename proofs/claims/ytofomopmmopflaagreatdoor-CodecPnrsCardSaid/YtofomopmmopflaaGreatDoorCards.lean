/-
  DERIVED. GIVEN WITH THE SEED: THE CARDS: each row of YtofomopmmopflaaGreatDoorRows.lean that lists a variable, with what it lists TIED to the program's text (the seventh form; the later family's looks); each row that meets fmt, with fmt's text TOLD by the authors' own Lean function (tested against real Go, not proved from fmt's source: count such statements apart). THE CARD IS WHAT COUNTS. Prove the row's statement (the work); the ties are given (YtofomopmmopflaaGreatDoorTie.lean); close each card by the builder's one call (the guide's Derived/Test/ToyasCard.lean, 'card_holds'). Laid BY PROGRAM, IN A SANDBOX (cutbox-door.mjs). By AI agents, Wed Nov 11 2026. No macro, syntax, notation, axiom, sorry.
-/
import Derived.Test.YtofomopmmopflaaGreatDoorRows
import GoSem.ClaimSeven
namespace Go.Proofs.YtofomopmmopflaaGreatDoor
namespace Rows

/-- THE TIED CARD OF 'jetwaylaw14.CodecPnrs'. -/
def codecPnrsCard : Claim7 := { stood := { row := codecPnrsRow, standIns := [], harness := (true, "0ddb8b0c77c9bbe6db8dbc5f057cad995513b16bbbb4a3da714de3a92adc91b1"), looks := false }, kinds := [], alts := [], laidByText := true, laidKinds := [.data, .data, .data], laidTests := true, laidLooks := .later }
def CodecPnrsCardSaid : Prop := Claim7.holds Tryz.pinned (.plain (OpenSpec.ofChange codecPnrsSpec)) codecPnrsCard

/-- THE SECOND FORM's CARD OF 'jetwaylaw14.CodecPnrs'. -/
def codecPnrsUptoCard : Claim7 := { stood := { row := codecPnrsUptoRow, standIns := [], harness := (true, "0ddb8b0c77c9bbe6db8dbc5f057cad995513b16bbbb4a3da714de3a92adc91b1"), looks := false }, kinds := [], alts := [], laidByText := true, laidKinds := [.data, .data, .data], laidTests := true, laidLooks := .later }
def CodecPnrsUptoCardSaid : Prop := Claim7.holds Tryz.pinned (.plain (OpenSpec.upto codecPnrsSpec)) codecPnrsUptoCard
end Rows
end Go.Proofs.YtofomopmmopflaaGreatDoor
