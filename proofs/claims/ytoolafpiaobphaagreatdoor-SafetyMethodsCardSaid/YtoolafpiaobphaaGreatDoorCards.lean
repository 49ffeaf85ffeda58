/-
  DERIVED. GIVEN WITH THE SEED: THE CARDS: each row of YtoolafpiaobphaaGreatDoorRows.lean that lists a variable, with what it lists TIED to the program's text (the seventh form; the later family's looks); each row that meets fmt, with fmt's text TOLD by the authors' own Lean function (tested against real Go, not proved from fmt's source: count such statements apart). THE CARD IS WHAT COUNTS. Prove the row's statement (the work); the ties are given (YtoolafpiaobphaaGreatDoorTie.lean); close each card by the builder's one call (the guide's Derived/Test/ToyasCard.lean, 'card_holds'). Laid BY PROGRAM, IN A SANDBOX (cutbox-door.mjs). By AI agents, Wed Nov 11 2026. No macro, syntax, notation, axiom, sorry.
-/
import Derived.Test.YtoolafpiaobphaaGreatDoorRows
import GoSem.ClaimSeven
namespace Go.Proofs.YtoolafpiaobphaaGreatDoor
namespace Rows

/-- THE TIED CARD OF 'arbaclaw37.SafetyMethods'. -/
def safetyMethodsCard : Claim7 := { stood := { row := safetyMethodsRow, standIns := [], harness := (true, "3088316f71852518db33349027f7c82f1e80c83f62cef4e305d71ba967af0e80"), looks := false }, kinds := [], alts := [], laidByText := true, laidKinds := [.data, .data, .data], laidTests := true, laidLooks := .later }
def SafetyMethodsCardSaid : Prop := Claim7.holds Tryz.pinned (.plain (OpenSpec.ofChange safetyMethodsSpec)) safetyMethodsCard

/-- THE SECOND FORM's CARD OF 'arbaclaw37.SafetyMethods'. -/
def safetyMethodsUptoCard : Claim7 := { stood := { row := safetyMethodsUptoRow, standIns := [], harness := (true, "3088316f71852518db33349027f7c82f1e80c83f62cef4e305d71ba967af0e80"), looks := false }, kinds := [], alts := [], laidByText := true, laidKinds := [.data, .data, .data], laidTests := true, laidLooks := .later }
def SafetyMethodsUptoCardSaid : Prop := Claim7.holds Tryz.pinned (.plain (OpenSpec.upto safetyMethodsSpec)) safetyMethodsUptoCard
end Rows
end Go.Proofs.YtoolafpiaobphaaGreatDoor
