/-
  DERIVED. GIVEN WITH THE SEED: THE CARDS: each row of YtcoehdmpjflmlaaGreatDoorRows.lean that lists a variable, with what it lists TIED to the program's text (the seventh form; the later family's looks); each row that meets fmt, with fmt's text TOLD by the authors' own Lean function (tested against real Go, not proved from fmt's source: count such statements apart). THE CARD IS WHAT COUNTS. Prove the row's statement (the work); the ties are given (YtcoehdmpjflmlaaGreatDoorTie.lean); close each card by the builder's one call (the guide's Derived/Test/ToyasCard.lean, 'card_holds'). Laid BY PROGRAM, IN A SANDBOX (cutbox-door.mjs). By AI agents, Wed Nov 11 2026. No macro, syntax, notation, axiom, sorry.
-/
import Derived.Test.YtcoehdmpjflmlaaGreatDoorRows
import GoSem.ClaimSeven
namespace Go.Proofs.YtcoehdmpjflmlaaGreatDoor
namespace Rows

/-- THE TIED CARD OF 'arbaclaw20.MeaningAssigns'. -/
def meaningAssignsCard : Claim7 := { stood := { row := meaningAssignsRow, standIns := [], harness := (true, "6a592bd7f23a4f5349bd036d76b1275ed2707ce5de6cb214f1d1fcbee7ea5219"), looks := false }, kinds := [], alts := [], laidByText := true, laidKinds := [.data], laidTests := true, laidLooks := .later }
def MeaningAssignsCardSaid : Prop := Claim7.holds Tryz.pinned (.plain (OpenSpec.ofChange meaningAssignsSpec)) meaningAssignsCard

/-- THE TIED CARD OF 'arbaclaw20.MeaningDays'. -/
def meaningDaysCard : Claim7 := { stood := { row := meaningDaysRow, standIns := [], harness := (true, "6a592bd7f23a4f5349bd036d76b1275ed2707ce5de6cb214f1d1fcbee7ea5219"), looks := false }, kinds := [], alts := [], laidByText := true, laidKinds := [.data], laidTests := true, laidLooks := .later }
def MeaningDaysCardSaid : Prop := Claim7.holds Tryz.pinned (.plain (OpenSpec.ofChange meaningDaysSpec)) meaningDaysCard

/-- THE SECOND FORM's CARD OF 'arbaclaw20.MeaningAssigns'. -/
def meaningAssignsUptoCard : Claim7 := { stood := { row := meaningAssignsUptoRow, standIns := [], harness := (true, "6a592bd7f23a4f5349bd036d76b1275ed2707ce5de6cb214f1d1fcbee7ea5219"), looks := false }, kinds := [], alts := [], laidByText := true, laidKinds := [.data], laidTests := true, laidLooks := .later }
def MeaningAssignsUptoCardSaid : Prop := Claim7.holds Tryz.pinned (.plain (OpenSpec.upto meaningAssignsSpec)) meaningAssignsUptoCard

/-- THE SECOND FORM's CARD OF 'arbaclaw20.MeaningDays'. -/
def meaningDaysUptoCard : Claim7 := { stood := { row := meaningDaysUptoRow, standIns := [], harness := (true, "6a592bd7f23a4f5349bd036d76b1275ed2707ce5de6cb214f1d1fcbee7ea5219"), looks := false }, kinds := [], alts := [], laidByText := true, laidKinds := [.data], laidTests := true, laidLooks := .later }
def MeaningDaysUptoCardSaid : Prop := Claim7.holds Tryz.pinned (.plain (OpenSpec.upto meaningDaysSpec)) meaningDaysUptoCard
end Rows
end Go.Proofs.YtcoehdmpjflmlaaGreatDoor
