/-
  DERIVED. GIVEN WITH THE SEED: THE CARDS: each row of YtjpkfigmmmngnaaGreatDoorRows.lean that lists a variable, with what it lists TIED to the program's text (the seventh form; the later family's looks); each row that meets fmt, with fmt's text TOLD by the authors' own Lean function (tested against real Go, not proved from fmt's source: count such statements apart). THE CARD IS WHAT COUNTS. Prove the row's statement (the work); the ties are given (YtjpkfigmmmngnaaGreatDoorTie.lean); close each card by the builder's one call (the guide's Derived/Test/ToyasCard.lean, 'card_holds'). Laid BY PROGRAM, IN A SANDBOX (cutbox-door.mjs). By AI agents, Wed Nov 11 2026. No macro, syntax, notation, axiom, sorry.
-/
import Derived.Test.YtjpkfigmmmngnaaGreatDoorRows
import GoSem.ClaimSeven
namespace Go.Proofs.YtjpkfigmmmngnaaGreatDoor
namespace Rows

/-- THE TIED CARD OF 'arbaclaw21.WitnessMends'. -/
def witnessMendsCard : Claim7 := { stood := { row := witnessMendsRow, standIns := [], harness := (true, "3b95f6944516eaa7af7441d5befe7852d094d3e59071218fbee46b50b6f9d4f3"), looks := true }, kinds := [], alts := [], laidByText := true, laidKinds := [.data, .data, .data], laidTests := true, laidLooks := .later }
def WitnessMendsCardSaid : Prop := Claim7.holds Tryz.pinned (.plain (OpenSpec.ofChange witnessMendsSpec)) witnessMendsCard

/-- THE TIED CARD OF 'arbaclaw21.WitnessOf'. -/
def witnessOfCard : Claim7 := { stood := { row := witnessOfRow, standIns := [], harness := (true, "3b95f6944516eaa7af7441d5befe7852d094d3e59071218fbee46b50b6f9d4f3"), looks := true }, kinds := [], alts := [], laidByText := true, laidKinds := [.data, .data, .data], laidTests := true, laidLooks := .later }
def WitnessOfCardSaid : Prop := Claim7.holds Tryz.pinned (.plain (OpenSpec.ofChange witnessOfSpec)) witnessOfCard

/-- THE TIED CARD OF 'arbaclaw21.WitnessRepairs'. -/
def witnessRepairsCard : Claim7 := { stood := { row := witnessRepairsRow, standIns := [], harness := (true, "3b95f6944516eaa7af7441d5befe7852d094d3e59071218fbee46b50b6f9d4f3"), looks := true }, kinds := [], alts := [], laidByText := true, laidKinds := [.data, .data, .data], laidTests := true, laidLooks := .later }
def WitnessRepairsCardSaid : Prop := Claim7.holds Tryz.pinned (.plain (OpenSpec.ofChange witnessRepairsSpec)) witnessRepairsCard

/-- THE TIED CARD OF 'arbaclaw21.WitnessAdditions'. -/
def witnessAdditionsCard : Claim7 := { stood := { row := witnessAdditionsRow, standIns := [], harness := (true, "3b95f6944516eaa7af7441d5befe7852d094d3e59071218fbee46b50b6f9d4f3"), looks := true }, kinds := [], alts := [], laidByText := true, laidKinds := [.data, .data, .data], laidTests := true, laidLooks := .later }
def WitnessAdditionsCardSaid : Prop := Claim7.holds Tryz.pinned (.plain (OpenSpec.ofChange witnessAdditionsSpec)) witnessAdditionsCard

/-- THE TIED CARD OF 'arbaclaw21.WitnessMonotone'. -/
def witnessMonotoneCard : Claim7 := { stood := { row := witnessMonotoneRow, standIns := [], harness := (true, "3b95f6944516eaa7af7441d5befe7852d094d3e59071218fbee46b50b6f9d4f3"), looks := true }, kinds := [], alts := [], laidByText := true, laidKinds := [.data, .data, .data], laidTests := true, laidLooks := .later }
def WitnessMonotoneCardSaid : Prop := Claim7.holds Tryz.pinned (.plain (OpenSpec.ofChange witnessMonotoneSpec)) witnessMonotoneCard

/-- THE TIED CARD OF 'arbaclaw21.WitnessLeast'. -/
def witnessLeastCard : Claim7 := { stood := { row := witnessLeastRow, standIns := [], harness := (true, "3b95f6944516eaa7af7441d5befe7852d094d3e59071218fbee46b50b6f9d4f3"), looks := true }, kinds := [], alts := [], laidByText := true, laidKinds := [.data, .data, .data], laidTests := true, laidLooks := .later }
def WitnessLeastCardSaid : Prop := Claim7.holds Tryz.pinned (.plain (OpenSpec.ofChange witnessLeastSpec)) witnessLeastCard

/-- THE TIED CARD OF 'arbaclaw21.WitnessNormal'. -/
def witnessNormalCard : Claim7 := { stood := { row := witnessNormalRow, standIns := [], harness := (true, "3b95f6944516eaa7af7441d5befe7852d094d3e59071218fbee46b50b6f9d4f3"), looks := true }, kinds := [], alts := [], laidByText := true, laidKinds := [.data, .data, .data], laidTests := true, laidLooks := .later }
def WitnessNormalCardSaid : Prop := Claim7.holds Tryz.pinned (.plain (OpenSpec.ofChange witnessNormalSpec)) witnessNormalCard

/-- THE TIED CARD OF 'arbaclaw21.WitnessErrors'. -/
def witnessErrorsCard : Claim7 := { stood := { row := witnessErrorsRow, standIns := [], harness := (true, "3b95f6944516eaa7af7441d5befe7852d094d3e59071218fbee46b50b6f9d4f3"), looks := true }, kinds := [], alts := [], laidByText := true, laidKinds := [.data, .data, .data], laidTests := true, laidLooks := .later }
def WitnessErrorsCardSaid : Prop := Claim7.holds Tryz.pinned (.plain (OpenSpec.ofChange witnessErrorsSpec)) witnessErrorsCard

/-- THE TIED CARD OF 'arbaclaw21.WitnessTexts'. -/
def witnessTextsCard : Claim7 := { stood := { row := witnessTextsRow, standIns := [], harness := (true, "3b95f6944516eaa7af7441d5befe7852d094d3e59071218fbee46b50b6f9d4f3"), looks := true }, kinds := [], alts := [], laidByText := true, laidKinds := [.data, .data, .data], laidTests := true, laidLooks := .later }
def WitnessTextsCardSaid : Prop := Claim7.holds Tryz.pinned (.plain (OpenSpec.ofChange witnessTextsSpec)) witnessTextsCard

/-- THE SECOND FORM's CARD OF 'arbaclaw21.WitnessMends'. -/
def witnessMendsUptoCard : Claim7 := { stood := { row := witnessMendsUptoRow, standIns := [], harness := (true, "3b95f6944516eaa7af7441d5befe7852d094d3e59071218fbee46b50b6f9d4f3"), looks := true }, kinds := [], alts := [], laidByText := true, laidKinds := [.data, .data, .data], laidTests := true, laidLooks := .later }
def WitnessMendsUptoCardSaid : Prop := Claim7.holds Tryz.pinned (.plain (OpenSpec.upto witnessMendsSpec)) witnessMendsUptoCard

/-- THE SECOND FORM's CARD OF 'arbaclaw21.WitnessOf'. -/
def witnessOfUptoCard : Claim7 := { stood := { row := witnessOfUptoRow, standIns := [], harness := (true, "3b95f6944516eaa7af7441d5befe7852d094d3e59071218fbee46b50b6f9d4f3"), looks := true }, kinds := [], alts := [], laidByText := true, laidKinds := [.data, .data, .data], laidTests := true, laidLooks := .later }
def WitnessOfUptoCardSaid : Prop := Claim7.holds Tryz.pinned (.plain (OpenSpec.upto witnessOfSpec)) witnessOfUptoCard

/-- THE SECOND FORM's CARD OF 'arbaclaw21.WitnessRepairs'. -/
def witnessRepairsUptoCard : Claim7 := { stood := { row := witnessRepairsUptoRow, standIns := [], harness := (true, "3b95f6944516eaa7af7441d5befe7852d094d3e59071218fbee46b50b6f9d4f3"), looks := true }, kinds := [], alts := [], laidByText := true, laidKinds := [.data, .data, .data], laidTests := true, laidLooks := .later }
def WitnessRepairsUptoCardSaid : Prop := Claim7.holds Tryz.pinned (.plain (OpenSpec.upto witnessRepairsSpec)) witnessRepairsUptoCard

/-- THE SECOND FORM's CARD OF 'arbaclaw21.WitnessAdditions'. -/
def witnessAdditionsUptoCard : Claim7 := { stood := { row := witnessAdditionsUptoRow, standIns := [], harness := (true, "3b95f6944516eaa7af7441d5befe7852d094d3e59071218fbee46b50b6f9d4f3"), looks := true }, kinds := [], alts := [], laidByText := true, laidKinds := [.data, .data, .data], laidTests := true, laidLooks := .later }
def WitnessAdditionsUptoCardSaid : Prop := Claim7.holds Tryz.pinned (.plain (OpenSpec.upto witnessAdditionsSpec)) witnessAdditionsUptoCard

/-- THE SECOND FORM's CARD OF 'arbaclaw21.WitnessMonotone'. -/
def witnessMonotoneUptoCard : Claim7 := { stood := { row := witnessMonotoneUptoRow, standIns := [], harness := (true, "3b95f6944516eaa7af7441d5befe7852d094d3e59071218fbee46b50b6f9d4f3"), looks := true }, kinds := [], alts := [], laidByText := true, laidKinds := [.data, .data, .data], laidTests := true, laidLooks := .later }
def WitnessMonotoneUptoCardSaid : Prop := Claim7.holds Tryz.pinned (.plain (OpenSpec.upto witnessMonotoneSpec)) witnessMonotoneUptoCard

/-- THE SECOND FORM's CARD OF 'arbaclaw21.WitnessLeast'. -/
def witnessLeastUptoCard : Claim7 := { stood := { row := witnessLeastUptoRow, standIns := [], harness := (true, "3b95f6944516eaa7af7441d5befe7852d094d3e59071218fbee46b50b6f9d4f3"), looks := true }, kinds := [], alts := [], laidByText := true, laidKinds := [.data, .data, .data], laidTests := true, laidLooks := .later }
def WitnessLeastUptoCardSaid : Prop := Claim7.holds Tryz.pinned (.plain (OpenSpec.upto witnessLeastSpec)) witnessLeastUptoCard

/-- THE SECOND FORM's CARD OF 'arbaclaw21.WitnessNormal'. -/
def witnessNormalUptoCard : Claim7 := { stood := { row := witnessNormalUptoRow, standIns := [], harness := (true, "3b95f6944516eaa7af7441d5befe7852d094d3e59071218fbee46b50b6f9d4f3"), looks := true }, kinds := [], alts := [], laidByText := true, laidKinds := [.data, .data, .data], laidTests := true, laidLooks := .later }
def WitnessNormalUptoCardSaid : Prop := Claim7.holds Tryz.pinned (.plain (OpenSpec.upto witnessNormalSpec)) witnessNormalUptoCard

/-- THE SECOND FORM's CARD OF 'arbaclaw21.WitnessErrors'. -/
def witnessErrorsUptoCard : Claim7 := { stood := { row := witnessErrorsUptoRow, standIns := [], harness := (true, "3b95f6944516eaa7af7441d5befe7852d094d3e59071218fbee46b50b6f9d4f3"), looks := true }, kinds := [], alts := [], laidByText := true, laidKinds := [.data, .data, .data], laidTests := true, laidLooks := .later }
def WitnessErrorsUptoCardSaid : Prop := Claim7.holds Tryz.pinned (.plain (OpenSpec.upto witnessErrorsSpec)) witnessErrorsUptoCard

/-- THE SECOND FORM's CARD OF 'arbaclaw21.WitnessTexts'. -/
def witnessTextsUptoCard : Claim7 := { stood := { row := witnessTextsUptoRow, standIns := [], harness := (true, "3b95f6944516eaa7af7441d5befe7852d094d3e59071218fbee46b50b6f9d4f3"), looks := true }, kinds := [], alts := [], laidByText := true, laidKinds := [.data, .data, .data], laidTests := true, laidLooks := .later }
def WitnessTextsUptoCardSaid : Prop := Claim7.holds Tryz.pinned (.plain (OpenSpec.upto witnessTextsSpec)) witnessTextsUptoCard
end Rows
end Go.Proofs.YtjpkfigmmmngnaaGreatDoor
