/-
  DERIVED. GIVEN WITH THE SEED: THE CARDS: each row of YtgpjedjgmpienaaGreatDoorRows.lean that lists a variable, with what it lists TIED to the program's text (the seventh form; the later family's looks); each row that meets fmt, with fmt's text TOLD by the authors' own Lean function (tested against real Go, not proved from fmt's source: count such statements apart). THE CARD IS WHAT COUNTS. Prove the row's statement (the work); the ties are given (YtgpjedjgmpienaaGreatDoorTie.lean); close each card by the builder's one call (the guide's Derived/Test/ToyasCard.lean, 'card_holds'). Laid BY PROGRAM, IN A SANDBOX (cutbox-door.mjs). By AI agents, Wed Nov 11 2026. No macro, syntax, notation, axiom, sorry.
-/
import Derived.Test.YtgpjedjgmpienaaGreatDoorRows
import GoSem.ClaimSeven
namespace Go.Proofs.YtgpjedjgmpienaaGreatDoor
namespace Rows

/-- THE TIED CARD OF 'arbactop.TopNormal'. -/
def topNormalCard : Claim7 := { stood := { row := topNormalRow, standIns := [], harness := (true, "77d831d18a103d046b1c79eb64ecc5d3c44472ad0ba6b2437576fd83a9b7081f"), looks := true }, kinds := [], alts := [], laidByText := true, laidKinds := [.data, .data, .data, .data, .pinned], laidTests := true, laidLooks := .later }
def TopNormalCardSaid : Prop := Claim7.holds Tryz.pinned (.plain (OpenSpec.ofChange topNormalSpec)) topNormalCard

/-- THE SECOND FORM's CARD OF 'arbactop.TopNormal'. -/
def topNormalUptoCard : Claim7 := { stood := { row := topNormalUptoRow, standIns := [], harness := (true, "77d831d18a103d046b1c79eb64ecc5d3c44472ad0ba6b2437576fd83a9b7081f"), looks := true }, kinds := [], alts := [], laidByText := true, laidKinds := [.data, .data, .data, .data, .pinned], laidTests := true, laidLooks := .later }
def TopNormalUptoCardSaid : Prop := Claim7.holds Tryz.pinned (.plain (OpenSpec.upto topNormalSpec)) topNormalUptoCard
end Rows
end Go.Proofs.YtgpjedjgmpienaaGreatDoor
