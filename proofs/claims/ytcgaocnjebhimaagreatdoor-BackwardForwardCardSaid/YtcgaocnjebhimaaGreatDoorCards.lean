/-
  DERIVED. GIVEN WITH THE SEED: THE CARDS: each row of YtcgaocnjebhimaaGreatDoorRows.lean that lists a variable, with what it lists TIED to the program's text (the seventh form; the later family's looks); each row that meets fmt, with fmt's text TOLD by the authors' own Lean function (tested against real Go, not proved from fmt's source: count such statements apart). THE CARD IS WHAT COUNTS. Prove the row's statement (the work); the ties are given (YtcgaocnjebhimaaGreatDoorTie.lean); close each card by the builder's one call (the guide's Derived/Test/ToyasCard.lean, 'card_holds'). Laid BY PROGRAM, IN A SANDBOX (cutbox-door.mjs). By AI agents, Wed Nov 11 2026. No macro, syntax, notation, axiom, sorry.
-/
import Derived.Test.YtcgaocnjebhimaaGreatDoorRows
import GoSem.ClaimSeven
namespace Go.Proofs.YtcgaocnjebhimaaGreatDoor
namespace Rows

/-- THE TIED CARD OF 'arbaclaw34.BackwardForward'. -/
def backwardForwardCard : Claim7 := { stood := { row := backwardForwardRow, standIns := [], harness := (true, "b81fa3674be2336321b0af3004cb9a82930f48319052266457032607a354b19f"), looks := false }, kinds := [], alts := [], laidByText := true, laidKinds := [.data, .data, .data], laidTests := true, laidLooks := .later }
def BackwardForwardCardSaid : Prop := Claim7.holds Tryz.pinned (.plain (OpenSpec.ofChange backwardForwardSpec)) backwardForwardCard

/-- THE SECOND FORM's CARD OF 'arbaclaw34.BackwardForward'. -/
def backwardForwardUptoCard : Claim7 := { stood := { row := backwardForwardUptoRow, standIns := [], harness := (true, "b81fa3674be2336321b0af3004cb9a82930f48319052266457032607a354b19f"), looks := false }, kinds := [], alts := [], laidByText := true, laidKinds := [.data, .data, .data], laidTests := true, laidLooks := .later }
def BackwardForwardUptoCardSaid : Prop := Claim7.holds Tryz.pinned (.plain (OpenSpec.upto backwardForwardSpec)) backwardForwardUptoCard
end Rows
end Go.Proofs.YtcgaocnjebhimaaGreatDoor
