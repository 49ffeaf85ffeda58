/-
  DERIVED. GIVEN WITH THE SEED: THE CARDS: each row of YtifohjijhhjdkaaGreatDoorRows.lean that lists a variable, with what it lists TIED to the program's text (the seventh form; the later family's looks); each row that meets fmt, with fmt's text TOLD by the authors' own Lean function (tested against real Go, not proved from fmt's source: count such statements apart). THE CARD IS WHAT COUNTS. Prove the row's statement (the work); the ties are given (YtifohjijhhjdkaaGreatDoorTie.lean); close each card by the builder's one call (the guide's Derived/Test/ToyasCard.lean, 'card_holds'). Laid BY PROGRAM, IN A SANDBOX (cutbox-door.mjs). By AI agents, Wed Nov 11 2026. No macro, syntax, notation, axiom, sorry.
-/
import Derived.Test.YtifohjijhhjdkaaGreatDoorRows
import GoSem.ClaimSeven
namespace Go.Proofs.YtifohjijhhjdkaaGreatDoor
namespace Rows

/-- THE TIED CARD OF 'arbaclaw19.NormalViolations'. -/
def normalViolationsCard : Claim7 := { stood := { row := normalViolationsRow, standIns := [], harness := (true, "60278ebb0399797ecb2d1b6d2c4fc51cb907438f354e44bc697f97883450e316"), looks := false }, kinds := [], alts := [], laidByText := true, laidKinds := [.data], laidTests := true, laidLooks := .later }
def NormalViolationsCardSaid : Prop := Claim7.holds Tryz.pinned (.plain (OpenSpec.ofChange normalViolationsSpec)) normalViolationsCard

/-- THE TIED CARD OF 'arbaclaw19.NormalRefuses'. -/
def normalRefusesCard : Claim7 := { stood := { row := normalRefusesRow, standIns := [], harness := (true, "60278ebb0399797ecb2d1b6d2c4fc51cb907438f354e44bc697f97883450e316"), looks := false }, kinds := [], alts := [], laidByText := true, laidKinds := [.data], laidTests := true, laidLooks := .later }
def NormalRefusesCardSaid : Prop := Claim7.holds Tryz.pinned (.plain (OpenSpec.ofChange normalRefusesSpec)) normalRefusesCard

/-- THE TIED CARD OF 'arbaclaw19.NormalBack'. -/
def normalBackCard : Claim7 := { stood := { row := normalBackRow, standIns := [], harness := (true, "60278ebb0399797ecb2d1b6d2c4fc51cb907438f354e44bc697f97883450e316"), looks := false }, kinds := [], alts := [], laidByText := true, laidKinds := [.data], laidTests := true, laidLooks := .later }
def NormalBackCardSaid : Prop := Claim7.holds Tryz.pinned (.plain (OpenSpec.ofChange normalBackSpec)) normalBackCard

/-- THE SECOND FORM's CARD OF 'arbaclaw19.NormalViolations'. -/
def normalViolationsUptoCard : Claim7 := { stood := { row := normalViolationsUptoRow, standIns := [], harness := (true, "60278ebb0399797ecb2d1b6d2c4fc51cb907438f354e44bc697f97883450e316"), looks := false }, kinds := [], alts := [], laidByText := true, laidKinds := [.data], laidTests := true, laidLooks := .later }
def NormalViolationsUptoCardSaid : Prop := Claim7.holds Tryz.pinned (.plain (OpenSpec.upto normalViolationsSpec)) normalViolationsUptoCard

/-- THE SECOND FORM's CARD OF 'arbaclaw19.NormalRefuses'. -/
def normalRefusesUptoCard : Claim7 := { stood := { row := normalRefusesUptoRow, standIns := [], harness := (true, "60278ebb0399797ecb2d1b6d2c4fc51cb907438f354e44bc697f97883450e316"), looks := false }, kinds := [], alts := [], laidByText := true, laidKinds := [.data], laidTests := true, laidLooks := .later }
def NormalRefusesUptoCardSaid : Prop := Claim7.holds Tryz.pinned (.plain (OpenSpec.upto normalRefusesSpec)) normalRefusesUptoCard

/-- THE SECOND FORM's CARD OF 'arbaclaw19.NormalBack'. -/
def normalBackUptoCard : Claim7 := { stood := { row := normalBackUptoRow, standIns := [], harness := (true, "60278ebb0399797ecb2d1b6d2c4fc51cb907438f354e44bc697f97883450e316"), looks := false }, kinds := [], alts := [], laidByText := true, laidKinds := [.data], laidTests := true, laidLooks := .later }
def NormalBackUptoCardSaid : Prop := Claim7.holds Tryz.pinned (.plain (OpenSpec.upto normalBackSpec)) normalBackUptoCard
end Rows
end Go.Proofs.YtifohjijhhjdkaaGreatDoor
