/-
  DERIVED. GIVEN WITH THE SEED: THE CARDS: each row of YtmnbbggaoembeaaGreatDoorRows.lean that lists a variable, with what it lists TIED to the program's text (the seventh form; the later family's looks); each row that meets fmt, with fmt's text TOLD by the authors' own Lean function (tested against real Go, not proved from fmt's source: count such statements apart). THE CARD IS WHAT COUNTS. Prove the row's statement (the work); the ties are given (YtmnbbggaoembeaaGreatDoorTie.lean); close each card by the builder's one call (the guide's Derived/Test/ToyasCard.lean, 'card_holds'). Laid BY PROGRAM, IN A SANDBOX (cutbox-door.mjs). By AI agents, Wed Nov 11 2026. No macro, syntax, notation, axiom, sorry.
-/
import Derived.Test.YtmnbbggaoembeaaGreatDoorRows
import GoSem.ClaimSeven
namespace Go.Proofs.YtmnbbggaoembeaaGreatDoor
namespace Rows

/-- THE TIED CARD OF 'arbaclaw38.JudgeSound'. -/
def judgeSoundCard : Claim7 := { stood := { row := judgeSoundRow, standIns := [], harness := (true, "73c21f7196f0b4087c3a3f595dd59d7deb88aa91980cc43c0013793faae3e45c"), looks := false }, kinds := [], alts := [], laidByText := true, laidKinds := [.data, .data, .data], laidTests := true, laidLooks := .later }
def JudgeSoundCardSaid : Prop := Claim7.holds Tryz.pinned (.plain (OpenSpec.ofChange judgeSoundSpec)) judgeSoundCard

/-- THE TIED CARD OF 'arbaclaw38.JudgeSteps'. -/
def judgeStepsCard : Claim7 := { stood := { row := judgeStepsRow, standIns := [], harness := (true, "73c21f7196f0b4087c3a3f595dd59d7deb88aa91980cc43c0013793faae3e45c"), looks := false }, kinds := [], alts := [], laidByText := true, laidKinds := [.data, .data, .data], laidTests := true, laidLooks := .later }
def JudgeStepsCardSaid : Prop := Claim7.holds Tryz.pinned (.plain (OpenSpec.ofChange judgeStepsSpec)) judgeStepsCard

/-- THE TIED CARD OF 'arbaclaw38.JudgeChanged'. -/
def judgeChangedCard : Claim7 := { stood := { row := judgeChangedRow, standIns := [], harness := (true, "73c21f7196f0b4087c3a3f595dd59d7deb88aa91980cc43c0013793faae3e45c"), looks := false }, kinds := [], alts := [], laidByText := true, laidKinds := [.data, .data, .data], laidTests := true, laidLooks := .later }
def JudgeChangedCardSaid : Prop := Claim7.holds Tryz.pinned (.plain (OpenSpec.ofChange judgeChangedSpec)) judgeChangedCard

/-- THE SECOND FORM's CARD OF 'arbaclaw38.JudgeSound'. -/
def judgeSoundUptoCard : Claim7 := { stood := { row := judgeSoundUptoRow, standIns := [], harness := (true, "73c21f7196f0b4087c3a3f595dd59d7deb88aa91980cc43c0013793faae3e45c"), looks := false }, kinds := [], alts := [], laidByText := true, laidKinds := [.data, .data, .data], laidTests := true, laidLooks := .later }
def JudgeSoundUptoCardSaid : Prop := Claim7.holds Tryz.pinned (.plain (OpenSpec.upto judgeSoundSpec)) judgeSoundUptoCard

/-- THE SECOND FORM's CARD OF 'arbaclaw38.JudgeSteps'. -/
def judgeStepsUptoCard : Claim7 := { stood := { row := judgeStepsUptoRow, standIns := [], harness := (true, "73c21f7196f0b4087c3a3f595dd59d7deb88aa91980cc43c0013793faae3e45c"), looks := false }, kinds := [], alts := [], laidByText := true, laidKinds := [.data, .data, .data], laidTests := true, laidLooks := .later }
def JudgeStepsUptoCardSaid : Prop := Claim7.holds Tryz.pinned (.plain (OpenSpec.upto judgeStepsSpec)) judgeStepsUptoCard

/-- THE SECOND FORM's CARD OF 'arbaclaw38.JudgeChanged'. -/
def judgeChangedUptoCard : Claim7 := { stood := { row := judgeChangedUptoRow, standIns := [], harness := (true, "73c21f7196f0b4087c3a3f595dd59d7deb88aa91980cc43c0013793faae3e45c"), looks := false }, kinds := [], alts := [], laidByText := true, laidKinds := [.data, .data, .data], laidTests := true, laidLooks := .later }
def JudgeChangedUptoCardSaid : Prop := Claim7.holds Tryz.pinned (.plain (OpenSpec.upto judgeChangedSpec)) judgeChangedUptoCard
end Rows
end Go.Proofs.YtmnbbggaoembeaaGreatDoor
