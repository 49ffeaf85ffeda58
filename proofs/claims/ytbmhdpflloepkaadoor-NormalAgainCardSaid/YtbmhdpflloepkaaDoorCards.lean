/-
  DERIVED. GIVEN WITH THE SEED: THE CARDS: each row of YtbmhdpflloepkaaDoorRows.lean that lists a variable, with what it lists TIED to the program's text (the seventh form; the later family's looks); each row that meets fmt, with fmt's text TOLD by the authors' own Lean function (tested against real Go, not proved from fmt's source: count such statements apart). THE CARD IS WHAT COUNTS. Prove the row's statement (the work); the ties are given (YtbmhdpflloepkaaDoorTie.lean); close each card by the builder's one call (the guide's Derived/Test/ToyasCard.lean, 'card_holds'). Laid BY PROGRAM, IN A SANDBOX (cutbox-door.mjs). By AI agents, Wed Nov 11 2026. No macro, syntax, notation, axiom, sorry.
-/
import Derived.Test.YtbmhdpflloepkaaDoorRows
import GoSem.ClaimSeven
namespace Go.Proofs.YtbmhdpflloepkaaDoor
namespace Rows

/-- THE TIED CARD OF 'arbaclaw19.NormalAgain'. -/
def normalAgainCard : Claim7 := { stood := { row := normalAgainRow, standIns := [], harness := (true, "db16ae82c0b9bc79e96af257266fda4978caac244ddf6c69dd78785f3888a6d7"), looks := false }, kinds := [], alts := [], laidByText := true, laidKinds := [.data], laidTests := true, laidLooks := .later }
def NormalAgainCardSaid : Prop := Claim7.holds Tryd.pinned (.plain (OpenSpec.ofChange normalAgainSpec)) normalAgainCard

/-- THE SECOND FORM's CARD OF 'arbaclaw19.NormalAgain'. -/
def normalAgainUptoCard : Claim7 := { stood := { row := normalAgainUptoRow, standIns := [], harness := (true, "db16ae82c0b9bc79e96af257266fda4978caac244ddf6c69dd78785f3888a6d7"), looks := false }, kinds := [], alts := [], laidByText := true, laidKinds := [.data], laidTests := true, laidLooks := .later }
def NormalAgainUptoCardSaid : Prop := Claim7.holds Tryd.pinned (.plain (OpenSpec.upto normalAgainSpec)) normalAgainUptoCard
end Rows
end Go.Proofs.YtbmhdpflloepkaaDoor
