/-
  DERIVED. GIVEN WITH THE SEED: THE CARDS: each row of YtojlnagiaibgkaaGreatDoorRows.lean that lists a variable, with what it lists TIED to the program's text (the seventh form; the later family's looks); each row that meets fmt, with fmt's text TOLD by the authors' own Lean function (tested against real Go, not proved from fmt's source: count such statements apart). THE CARD IS WHAT COUNTS. Prove the row's statement (the work); the ties are given (YtojlnagiaibgkaaGreatDoorTie.lean); close each card by the builder's one call (the guide's Derived/Test/ToyasCard.lean, 'card_holds'). Laid BY PROGRAM, IN A SANDBOX (cutbox-door.mjs). By AI agents, Wed Nov 11 2026. No macro, syntax, notation, axiom, sorry.
-/
import Derived.Test.YtojlnagiaibgkaaGreatDoorRows
import GoSem.ClaimSeven
namespace Go.Proofs.YtojlnagiaibgkaaGreatDoor
namespace Rows

/-- THE TIED CARD OF 'arbaclaw21.WitnessTexts'. -/
def witnessTextsCard : Claim7 := { stood := { row := witnessTextsRow, standIns := [], harness := (true, "1e13616ea4fcfe3a4104b755dc50e6bcb3a280bf5b40520d6b8b9e9470f4c1f0"), looks := true }, kinds := [], alts := [], laidByText := true, laidKinds := [.data, .data, .data], laidTests := true, laidLooks := .later }
def WitnessTextsCardSaid : Prop := Claim7.holds Tryz.pinned (.plain (OpenSpec.ofChange witnessTextsSpec)) witnessTextsCard

/-- THE SECOND FORM's CARD OF 'arbaclaw21.WitnessTexts'. -/
def witnessTextsUptoCard : Claim7 := { stood := { row := witnessTextsUptoRow, standIns := [], harness := (true, "1e13616ea4fcfe3a4104b755dc50e6bcb3a280bf5b40520d6b8b9e9470f4c1f0"), looks := true }, kinds := [], alts := [], laidByText := true, laidKinds := [.data, .data, .data], laidTests := true, laidLooks := .later }
def WitnessTextsUptoCardSaid : Prop := Claim7.holds Tryz.pinned (.plain (OpenSpec.upto witnessTextsSpec)) witnessTextsUptoCard
end Rows
end Go.Proofs.YtojlnagiaibgkaaGreatDoor
