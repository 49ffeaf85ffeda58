/-
  DERIVED. GIVEN WITH THE SEED: THE CARDS: each row of YthgklpbcmbmmcaaGreatDoorRows.lean that lists a variable, with what it lists TIED to the program's text (the seventh form; the later family's looks); each row that meets fmt, with fmt's text TOLD by the authors' own Lean function (tested against real Go, not proved from fmt's source: count such statements apart). THE CARD IS WHAT COUNTS. Prove the row's statement (the work); the ties are given (YthgklpbcmbmmcaaGreatDoorTie.lean); close each card by the builder's one call (the guide's Derived/Test/ToyasCard.lean, 'card_holds'). Laid BY PROGRAM, IN A SANDBOX (cutbox-door.mjs). By AI agents, Wed Nov 11 2026. No macro, syntax, notation, axiom, sorry.
-/
import Derived.Test.YthgklpbcmbmmcaaGreatDoorRows
import GoSem.ClaimSeven
namespace Go.Proofs.YthgklpbcmbmmcaaGreatDoor
namespace Rows

/-- THE TIED CARD OF 'arbaclaw34.BackwardBad'. -/
def backwardBadCard : Claim7 := { stood := { row := backwardBadRow, standIns := [], harness := (true, "014fd6b22e4042236147d53ae712baa1ad29d63ef9f6a0c47d7df3ac22154ff4"), looks := false }, kinds := [], alts := [], laidByText := true, laidKinds := [.data, .data, .data], laidTests := true, laidLooks := .later }
def BackwardBadCardSaid : Prop := Claim7.holds Tryz.pinned (.plain (OpenSpec.ofChange backwardBadSpec)) backwardBadCard

/-- THE TIED CARD OF 'arbaclaw34.BackwardTargets'. -/
def backwardTargetsCard : Claim7 := { stood := { row := backwardTargetsRow, standIns := [], harness := (true, "014fd6b22e4042236147d53ae712baa1ad29d63ef9f6a0c47d7df3ac22154ff4"), looks := false }, kinds := [], alts := [], laidByText := true, laidKinds := [.data, .data, .data], laidTests := true, laidLooks := .later }
def BackwardTargetsCardSaid : Prop := Claim7.holds Tryz.pinned (.plain (OpenSpec.ofChange backwardTargetsSpec)) backwardTargetsCard

/-- THE TIED CARD OF 'arbaclaw34.BackwardBefore'. -/
def backwardBeforeCard : Claim7 := { stood := { row := backwardBeforeRow, standIns := [], harness := (true, "014fd6b22e4042236147d53ae712baa1ad29d63ef9f6a0c47d7df3ac22154ff4"), looks := false }, kinds := [], alts := [], laidByText := true, laidKinds := [.data, .data, .data], laidTests := true, laidLooks := .later }
def BackwardBeforeCardSaid : Prop := Claim7.holds Tryz.pinned (.plain (OpenSpec.ofChange backwardBeforeSpec)) backwardBeforeCard

/-- THE TIED CARD OF 'arbaclaw34.BackwardSearches'. -/
def backwardSearchesCard : Claim7 := { stood := { row := backwardSearchesRow, standIns := [], harness := (true, "014fd6b22e4042236147d53ae712baa1ad29d63ef9f6a0c47d7df3ac22154ff4"), looks := false }, kinds := [], alts := [], laidByText := true, laidKinds := [.data, .data, .data], laidTests := true, laidLooks := .later }
def BackwardSearchesCardSaid : Prop := Claim7.holds Tryz.pinned (.plain (OpenSpec.ofChange backwardSearchesSpec)) backwardSearchesCard

/-- THE TIED CARD OF 'arbaclaw34.BackwardCubes'. -/
def backwardCubesCard : Claim7 := { stood := { row := backwardCubesRow, standIns := [], harness := (true, "014fd6b22e4042236147d53ae712baa1ad29d63ef9f6a0c47d7df3ac22154ff4"), looks := false }, kinds := [], alts := [], laidByText := true, laidKinds := [.data, .data, .data], laidTests := true, laidLooks := .later }
def BackwardCubesCardSaid : Prop := Claim7.holds Tryz.pinned (.plain (OpenSpec.ofChange backwardCubesSpec)) backwardCubesCard

/-- THE TIED CARD OF 'arbaclaw34.BackwardInvariant'. -/
def backwardInvariantCard : Claim7 := { stood := { row := backwardInvariantRow, standIns := [], harness := (true, "014fd6b22e4042236147d53ae712baa1ad29d63ef9f6a0c47d7df3ac22154ff4"), looks := false }, kinds := [], alts := [], laidByText := true, laidKinds := [.data, .data, .data], laidTests := true, laidLooks := .later }
def BackwardInvariantCardSaid : Prop := Claim7.holds Tryz.pinned (.plain (OpenSpec.ofChange backwardInvariantSpec)) backwardInvariantCard

/-- THE TIED CARD OF 'arbaclaw34.BackwardLimits'. -/
def backwardLimitsCard : Claim7 := { stood := { row := backwardLimitsRow, standIns := [], harness := (true, "014fd6b22e4042236147d53ae712baa1ad29d63ef9f6a0c47d7df3ac22154ff4"), looks := false }, kinds := [], alts := [], laidByText := true, laidKinds := [.data, .data, .data], laidTests := true, laidLooks := .later }
def BackwardLimitsCardSaid : Prop := Claim7.holds Tryz.pinned (.plain (OpenSpec.ofChange backwardLimitsSpec)) backwardLimitsCard

/-- THE TIED CARD OF 'arbaclaw34.BackwardErrors'. -/
def backwardErrorsCard : Claim7 := { stood := { row := backwardErrorsRow, standIns := [], harness := (true, "014fd6b22e4042236147d53ae712baa1ad29d63ef9f6a0c47d7df3ac22154ff4"), looks := false }, kinds := [], alts := [], laidByText := true, laidKinds := [.data, .data, .data], laidTests := true, laidLooks := .later }
def BackwardErrorsCardSaid : Prop := Claim7.holds Tryz.pinned (.plain (OpenSpec.ofChange backwardErrorsSpec)) backwardErrorsCard

/-- THE TIED CARD OF 'arbaclaw34.BackwardMore'. -/
def backwardMoreCard : Claim7 := { stood := { row := backwardMoreRow, standIns := [], harness := (true, "014fd6b22e4042236147d53ae712baa1ad29d63ef9f6a0c47d7df3ac22154ff4"), looks := false }, kinds := [], alts := [], laidByText := true, laidKinds := [.data, .data, .data], laidTests := true, laidLooks := .later }
def BackwardMoreCardSaid : Prop := Claim7.holds Tryz.pinned (.plain (OpenSpec.ofChange backwardMoreSpec)) backwardMoreCard

/-- THE TIED CARD OF 'arbaclaw34.BackwardForward'. -/
def backwardForwardCard : Claim7 := { stood := { row := backwardForwardRow, standIns := [], harness := (true, "014fd6b22e4042236147d53ae712baa1ad29d63ef9f6a0c47d7df3ac22154ff4"), looks := false }, kinds := [], alts := [], laidByText := true, laidKinds := [.data, .data, .data], laidTests := true, laidLooks := .later }
def BackwardForwardCardSaid : Prop := Claim7.holds Tryz.pinned (.plain (OpenSpec.ofChange backwardForwardSpec)) backwardForwardCard

/-- THE SECOND FORM's CARD OF 'arbaclaw34.BackwardBad'. -/
def backwardBadUptoCard : Claim7 := { stood := { row := backwardBadUptoRow, standIns := [], harness := (true, "014fd6b22e4042236147d53ae712baa1ad29d63ef9f6a0c47d7df3ac22154ff4"), looks := false }, kinds := [], alts := [], laidByText := true, laidKinds := [.data, .data, .data], laidTests := true, laidLooks := .later }
def BackwardBadUptoCardSaid : Prop := Claim7.holds Tryz.pinned (.plain (OpenSpec.upto backwardBadSpec)) backwardBadUptoCard

/-- THE SECOND FORM's CARD OF 'arbaclaw34.BackwardTargets'. -/
def backwardTargetsUptoCard : Claim7 := { stood := { row := backwardTargetsUptoRow, standIns := [], harness := (true, "014fd6b22e4042236147d53ae712baa1ad29d63ef9f6a0c47d7df3ac22154ff4"), looks := false }, kinds := [], alts := [], laidByText := true, laidKinds := [.data, .data, .data], laidTests := true, laidLooks := .later }
def BackwardTargetsUptoCardSaid : Prop := Claim7.holds Tryz.pinned (.plain (OpenSpec.upto backwardTargetsSpec)) backwardTargetsUptoCard

/-- THE SECOND FORM's CARD OF 'arbaclaw34.BackwardBefore'. -/
def backwardBeforeUptoCard : Claim7 := { stood := { row := backwardBeforeUptoRow, standIns := [], harness := (true, "014fd6b22e4042236147d53ae712baa1ad29d63ef9f6a0c47d7df3ac22154ff4"), looks := false }, kinds := [], alts := [], laidByText := true, laidKinds := [.data, .data, .data], laidTests := true, laidLooks := .later }
def BackwardBeforeUptoCardSaid : Prop := Claim7.holds Tryz.pinned (.plain (OpenSpec.upto backwardBeforeSpec)) backwardBeforeUptoCard

/-- THE SECOND FORM's CARD OF 'arbaclaw34.BackwardSearches'. -/
def backwardSearchesUptoCard : Claim7 := { stood := { row := backwardSearchesUptoRow, standIns := [], harness := (true, "014fd6b22e4042236147d53ae712baa1ad29d63ef9f6a0c47d7df3ac22154ff4"), looks := false }, kinds := [], alts := [], laidByText := true, laidKinds := [.data, .data, .data], laidTests := true, laidLooks := .later }
def BackwardSearchesUptoCardSaid : Prop := Claim7.holds Tryz.pinned (.plain (OpenSpec.upto backwardSearchesSpec)) backwardSearchesUptoCard

/-- THE SECOND FORM's CARD OF 'arbaclaw34.BackwardCubes'. -/
def backwardCubesUptoCard : Claim7 := { stood := { row := backwardCubesUptoRow, standIns := [], harness := (true, "014fd6b22e4042236147d53ae712baa1ad29d63ef9f6a0c47d7df3ac22154ff4"), looks := false }, kinds := [], alts := [], laidByText := true, laidKinds := [.data, .data, .data], laidTests := true, laidLooks := .later }
def BackwardCubesUptoCardSaid : Prop := Claim7.holds Tryz.pinned (.plain (OpenSpec.upto backwardCubesSpec)) backwardCubesUptoCard

/-- THE SECOND FORM's CARD OF 'arbaclaw34.BackwardInvariant'. -/
def backwardInvariantUptoCard : Claim7 := { stood := { row := backwardInvariantUptoRow, standIns := [], harness := (true, "014fd6b22e4042236147d53ae712baa1ad29d63ef9f6a0c47d7df3ac22154ff4"), looks := false }, kinds := [], alts := [], laidByText := true, laidKinds := [.data, .data, .data], laidTests := true, laidLooks := .later }
def BackwardInvariantUptoCardSaid : Prop := Claim7.holds Tryz.pinned (.plain (OpenSpec.upto backwardInvariantSpec)) backwardInvariantUptoCard

/-- THE SECOND FORM's CARD OF 'arbaclaw34.BackwardLimits'. -/
def backwardLimitsUptoCard : Claim7 := { stood := { row := backwardLimitsUptoRow, standIns := [], harness := (true, "014fd6b22e4042236147d53ae712baa1ad29d63ef9f6a0c47d7df3ac22154ff4"), looks := false }, kinds := [], alts := [], laidByText := true, laidKinds := [.data, .data, .data], laidTests := true, laidLooks := .later }
def BackwardLimitsUptoCardSaid : Prop := Claim7.holds Tryz.pinned (.plain (OpenSpec.upto backwardLimitsSpec)) backwardLimitsUptoCard

/-- THE SECOND FORM's CARD OF 'arbaclaw34.BackwardErrors'. -/
def backwardErrorsUptoCard : Claim7 := { stood := { row := backwardErrorsUptoRow, standIns := [], harness := (true, "014fd6b22e4042236147d53ae712baa1ad29d63ef9f6a0c47d7df3ac22154ff4"), looks := false }, kinds := [], alts := [], laidByText := true, laidKinds := [.data, .data, .data], laidTests := true, laidLooks := .later }
def BackwardErrorsUptoCardSaid : Prop := Claim7.holds Tryz.pinned (.plain (OpenSpec.upto backwardErrorsSpec)) backwardErrorsUptoCard

/-- THE SECOND FORM's CARD OF 'arbaclaw34.BackwardMore'. -/
def backwardMoreUptoCard : Claim7 := { stood := { row := backwardMoreUptoRow, standIns := [], harness := (true, "014fd6b22e4042236147d53ae712baa1ad29d63ef9f6a0c47d7df3ac22154ff4"), looks := false }, kinds := [], alts := [], laidByText := true, laidKinds := [.data, .data, .data], laidTests := true, laidLooks := .later }
def BackwardMoreUptoCardSaid : Prop := Claim7.holds Tryz.pinned (.plain (OpenSpec.upto backwardMoreSpec)) backwardMoreUptoCard

/-- THE SECOND FORM's CARD OF 'arbaclaw34.BackwardForward'. -/
def backwardForwardUptoCard : Claim7 := { stood := { row := backwardForwardUptoRow, standIns := [], harness := (true, "014fd6b22e4042236147d53ae712baa1ad29d63ef9f6a0c47d7df3ac22154ff4"), looks := false }, kinds := [], alts := [], laidByText := true, laidKinds := [.data, .data, .data], laidTests := true, laidLooks := .later }
def BackwardForwardUptoCardSaid : Prop := Claim7.holds Tryz.pinned (.plain (OpenSpec.upto backwardForwardSpec)) backwardForwardUptoCard
end Rows
end Go.Proofs.YthgklpbcmbmmcaaGreatDoor
