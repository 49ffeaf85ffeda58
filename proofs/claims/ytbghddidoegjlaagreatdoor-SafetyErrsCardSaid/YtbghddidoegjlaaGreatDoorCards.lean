/-
  DERIVED. GIVEN WITH THE SEED: THE CARDS: each row of YtbghddidoegjlaaGreatDoorRows.lean that lists a variable, with what it lists TIED to the program's text (the seventh form; the later family's looks); each row that meets fmt, with fmt's text TOLD by the authors' own Lean function (tested against real Go, not proved from fmt's source: count such statements apart). THE CARD IS WHAT COUNTS. Prove the row's statement (the work); the ties are given (YtbghddidoegjlaaGreatDoorTie.lean); close each card by the builder's one call (the guide's Derived/Test/ToyasCard.lean, 'card_holds'). Laid BY PROGRAM, IN A SANDBOX (cutbox-door.mjs). By AI agents, Wed Nov 11 2026. No macro, syntax, notation, axiom, sorry.
-/
import Derived.Test.YtbghddidoegjlaaGreatDoorRows
import GoSem.ClaimSeven
namespace Go.Proofs.YtbghddidoegjlaaGreatDoor
namespace Rows

/-- THE TIED CARD OF 'arbaclaw37.SafetyErrs'. -/
def safetyErrsCard : Claim7 := { stood := { row := safetyErrsRow, standIns := [], harness := (true, "1ee5003210474e8d9f4fb4f8ddb1a37ec20cb92bcef1e40ff92702b89013bfe8"), looks := false }, kinds := [], alts := [], laidByText := true, laidKinds := [.data, .data, .data, .data, .pinned], laidTests := true, laidLooks := .later }
def SafetyErrsCardSaid : Prop := Claim7.holds Tryz.pinned (.plain (OpenSpec.ofChange safetyErrsSpec)) safetyErrsCard

/-- THE SECOND FORM's CARD OF 'arbaclaw37.SafetyErrs'. -/
def safetyErrsUptoCard : Claim7 := { stood := { row := safetyErrsUptoRow, standIns := [], harness := (true, "1ee5003210474e8d9f4fb4f8ddb1a37ec20cb92bcef1e40ff92702b89013bfe8"), looks := false }, kinds := [], alts := [], laidByText := true, laidKinds := [.data, .data, .data, .data, .pinned], laidTests := true, laidLooks := .later }
def SafetyErrsUptoCardSaid : Prop := Claim7.holds Tryz.pinned (.plain (OpenSpec.upto safetyErrsSpec)) safetyErrsUptoCard
end Rows
end Go.Proofs.YtbghddidoegjlaaGreatDoor
