/-
  DERIVED. GIVEN WITH THE SEED: THE CARDS: each row of YtbfbcdjjhhcbaaaGreatDoorRows.lean that lists a variable, with what it lists TIED to the program's text (the seventh form; the later family's looks); each row that meets fmt, with fmt's text TOLD by the authors' own Lean function (tested against real Go, not proved from fmt's source: count such statements apart). THE CARD IS WHAT COUNTS. Prove the row's statement (the work); the ties are given (YtbfbcdjjhhcbaaaGreatDoorTie.lean); close each card by the builder's one call (the guide's Derived/Test/ToyasCard.lean, 'card_holds'). Laid BY PROGRAM, IN A SANDBOX (cutbox-door.mjs). By AI agents, Wed Nov 11 2026. No macro, syntax, notation, axiom, sorry.
-/
import Derived.Test.YtbfbcdjjhhcbaaaGreatDoorRows
import GoSem.ClaimSeven
namespace Go.Proofs.YtbfbcdjjhhcbaaaGreatDoor
namespace Rows

/-- THE TIED CARD OF 'arbaclaw37.SafetyGrows'. -/
def safetyGrowsCard : Claim7 := { stood := { row := safetyGrowsRow, standIns := [], harness := (true, "3e3373207980e751835690c5383e41013059c51b11fba5a495146f60047f09f0"), looks := false }, kinds := [], alts := [], laidByText := true, laidKinds := [.data, .data, .data], laidTests := true, laidLooks := .later }
def SafetyGrowsCardSaid : Prop := Claim7.holds Tryz.pinned (.plain (OpenSpec.ofChange safetyGrowsSpec)) safetyGrowsCard

/-- THE TIED CARD OF 'arbaclaw37.SafetyMethods'. -/
def safetyMethodsCard : Claim7 := { stood := { row := safetyMethodsRow, standIns := [], harness := (true, "3e3373207980e751835690c5383e41013059c51b11fba5a495146f60047f09f0"), looks := false }, kinds := [], alts := [], laidByText := true, laidKinds := [.data, .data, .data], laidTests := true, laidLooks := .later }
def SafetyMethodsCardSaid : Prop := Claim7.holds Tryz.pinned (.plain (OpenSpec.ofChange safetyMethodsSpec)) safetyMethodsCard

/-- THE SECOND FORM's CARD OF 'arbaclaw37.SafetyGrows'. -/
def safetyGrowsUptoCard : Claim7 := { stood := { row := safetyGrowsUptoRow, standIns := [], harness := (true, "3e3373207980e751835690c5383e41013059c51b11fba5a495146f60047f09f0"), looks := false }, kinds := [], alts := [], laidByText := true, laidKinds := [.data, .data, .data], laidTests := true, laidLooks := .later }
def SafetyGrowsUptoCardSaid : Prop := Claim7.holds Tryz.pinned (.plain (OpenSpec.upto safetyGrowsSpec)) safetyGrowsUptoCard

/-- THE SECOND FORM's CARD OF 'arbaclaw37.SafetyMethods'. -/
def safetyMethodsUptoCard : Claim7 := { stood := { row := safetyMethodsUptoRow, standIns := [], harness := (true, "3e3373207980e751835690c5383e41013059c51b11fba5a495146f60047f09f0"), looks := false }, kinds := [], alts := [], laidByText := true, laidKinds := [.data, .data, .data], laidTests := true, laidLooks := .later }
def SafetyMethodsUptoCardSaid : Prop := Claim7.holds Tryz.pinned (.plain (OpenSpec.upto safetyMethodsSpec)) safetyMethodsUptoCard
end Rows
end Go.Proofs.YtbfbcdjjhhcbaaaGreatDoor
